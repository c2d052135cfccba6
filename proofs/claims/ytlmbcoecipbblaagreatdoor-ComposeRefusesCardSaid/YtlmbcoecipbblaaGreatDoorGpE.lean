/- The engine's data for values and edits; contracts of the elder kind as the. -/
import Derived.Test.YtlmbcoecipbblaaGreatDoorGpC
import Derived.Test.YtlmbcoecipbblaaGreatDoorGpD
import Derived.Lib.Strings
set_option linter.unusedVariables false
set_option linter.unusedSimpArgs false
set_option linter.unusedSectionVars false
namespace Go.Proofs.YtlmbcoecipbblaaGreatDoor
open Go.RowKit
open Val (V E)
mutual
def encV : V → List DV
 | .mk k n t fs r l ps => [.lit (.int .i64 k), .lit (.int .u64 n), .lit (.string t), .sl (encF fs), .lit (.string r), .sl (encL l), .sl (encP ps)]
def encF : List (Int × V) → List (List DV)
 | [] => []
 | (n, x) :: r => (.lit (.int .i64 n) :: encV x) :: encF r
def encL : List V → List (List DV)
 | [] => []
 | x :: r => encV x :: encL r
def encP : List (V × V) → List (List DV)
 | [] => []
 | (k, x) :: r => (encV k ++ encV x) :: encP r
end
mutual
def encE : E → List DV
 | .mk k o n f r ro rn s ks => .lit (.int .i64 k) :: (encV o ++ (encV n ++ [.sl (encEF f), .lit (.bool r), .lit (.string ro), .lit (.string rn), .sl (encES s), .sl (encEK ks)]))
def encEF : List (Int × E) → List (List DV)
 | [] => []
 | (n, x) :: r => (.lit (.int .i64 n) :: encE x) :: encEF r
def encES : List (Int × Int × V × E) → List (List DV)
 | [] => []
 | (k, c, v, x) :: r => (.lit (.int .i64 k) :: .lit (.int .i64 c) :: (encV v ++ encE x)) :: encES r
def encEK : List (V × E) → List (List DV)
 | [] => []
 | (k, x) :: r => (encV k ++ encE x) :: encEK r
end
section
variable {h : Frag}
theorem DRs_app : ∀ {a b : List DV} {ws : List Value}, DRs h (a ++ b) ws ↔ ∃ u v, ws = u ++ v ∧ DRs h a u ∧ DRs h b v
 | [], b, ws => ⟨fun hx => ⟨[], ws, rfl, by rw [DRs], hx⟩, fun ⟨u, v, e, h1, h2⟩ => by rw [DRs] at h1; subst h1; rw [e]; exact h2⟩
 | c :: r, b, ws => by
  rw [List.cons_append, DRs]
  constructor
  ·rintro ⟨v, vs, rfl, h1, h2⟩
   obtain ⟨u, v', rfl, h3, h4⟩ := DRs_app.1 h2
   exact ⟨v :: u, v', rfl, by rw [DRs]; exact ⟨v, u, rfl, h1, h3⟩, h4⟩
  ·rintro ⟨u, v, rfl, h1, h2⟩
   rw [DRs] at h1
   obtain ⟨x, xs, rfl, h3, h4⟩ := h1
   exact ⟨x, xs ++ v, rfl, h3, DRs_app.2 ⟨xs, v, rfl, h4, h2⟩⟩
theorem FlatC.re {s t : Nat} {v : Value} {es : List (List Value)} (hf : FlatC s h v es) (ht : ∀ e ∈ es, e.length = t) : FlatC t h v es := by
 obtain ⟨a, cap, h1, h2, h3, h4, h5, h6⟩ := hf
 exact ⟨a, cap, h1, h2, h3, h4, h5, ht⟩
theorem DR_lit {v x : Value} : DR h (.lit v) x ↔ x = v ∧ litB v = true := by rw [DR]
theorem DR_int {k : IntKind} {n : Int} {x : Value} : DR h (.lit (.int k n)) x ↔ x = .int k n := by rw [DR]; exact ⟨fun e => e.1, fun e => ⟨e, rfl⟩⟩
theorem DR_bool {b : Bool} {x : Value} : DR h (.lit (.bool b)) x ↔ x = .bool b := by rw [DR]; exact ⟨fun e => e.1, fun e => ⟨e, rfl⟩⟩
theorem DR_str {t : ByteArray} {x : Value} : DR h (.lit (.string t)) x ↔ x = .string t ∧ t.size ≤ maxLen := by
 rw [DR]; exact ⟨fun e => ⟨e.1, litB_str e.2⟩, fun e => ⟨e.1, by unfold litB; rw [Bool.and_eq_true]; exact ⟨rfl, decide_eq_true e.2⟩⟩⟩
theorem DRs_cons {c : DV} {r : List DV} {ws : List Value} : DRs h (c :: r) ws ↔ ∃ v vs, ws = v :: vs ∧ DR h c v ∧ DRs h r vs := by rw [DRs]
theorem DRss_cons {c : List DV} {r : List (List DV)} {ws : List (List Value)} : DRss h (c :: r) ws ↔ ∃ v vs, ws = v :: vs ∧ DRs h c v ∧ DRss h r vs := by rw [DRss]
mutual
theorem VR_iff : ∀ (x : V) (cs : List Value), DRs h (encV x) cs ↔ VR h x cs
 | .mk k n t fs r l ps, cs => by
  rw [encV, VR]
  simp only [DRs_cons, DR_int, DR_str]
  constructor
  ·rintro ⟨_, _, rfl, rfl, _, _, rfl, rfl, _, _, rfl, ⟨rfl, h1⟩, fv, _, rfl, hf, _, _, rfl, ⟨rfl, h2⟩, lv, _, rfl, hl, pv, _, rfl, hp, h3⟩
   rw [DRs] at h3; subst h3
   rw [DR] at hf hl hp
   obtain ⟨s1, fe, f1, f2⟩ := hf
   obtain ⟨s2, le, l1, l2⟩ := hl
   obtain ⟨s3, pe, p1, p2⟩ := hp
   obtain ⟨f3, f4⟩ := (FsR_iff fs fe).1 f2
   obtain ⟨l3, l4⟩ := (LsR_iff l le).1 l2
   obtain ⟨p3, p4⟩ := (PsR_iff ps pe).1 p2
   exact ⟨fv, lv, pv, fe, le, pe, rfl, ⟨h1, h2⟩, ⟨f1.re f4, l1.re l4, p1.re p4⟩, f3, l3, p3⟩
  ·rintro ⟨fv, lv, pv, fe, le, pe, rfl, ⟨h1, h2⟩, ⟨f1, l1, p1⟩, f3, l3, p3⟩
   exact ⟨_, _, rfl, rfl, _, _, rfl, rfl, _, _, rfl, ⟨rfl, h1⟩, fv, _, rfl, by rw [DR]; exact ⟨8, fe, f1, (FsR_iff fs fe).2 ⟨f3, f1.sizes⟩⟩, _, _, rfl, ⟨rfl, h2⟩, lv, _, rfl, by rw [DR]; exact ⟨7, le, l1, (LsR_iff l le).2 ⟨l3, l1.sizes⟩⟩, pv, _, rfl, by rw [DR]; exact ⟨14, pe, p1, (PsR_iff ps pe).2 ⟨p3, p1.sizes⟩⟩, by rw [DRs]⟩
theorem FsR_iff : ∀ (x : List (Int × V)) (es : List (List Value)), DRss h (encF x) es ↔ FsR h x es ∧ ∀ e ∈ es, e.length = 8
 | [], es => by rw [encF, DRss, FsR]; exact ⟨fun e => ⟨e, by rw [e]; intro _ hm; cases hm⟩, fun e => e.1⟩
 | (n, x) :: r, es => by
  rw [encF, DRss_cons, FsR]
  simp only [DRs_cons, DR_int]
  constructor
  ·rintro ⟨_, vs, rfl, ⟨_, xc, rfl, rfl, hx⟩, hr⟩
   obtain ⟨h1, h2⟩ := (FsR_iff r vs).1 hr
   have hx := (VR_iff x xc).1 hx
   exact ⟨⟨xc, vs, rfl, hx, h1⟩, fun e he => by rcases List.mem_cons.1 he with rfl | he; (· rw [List.length_cons, hx.len]); exact h2 e he⟩
  ·rintro ⟨⟨xc, vs, rfl, hx, h1⟩, h2⟩
   exact ⟨_, vs, rfl, ⟨_, xc, rfl, rfl, (VR_iff x xc).2 hx⟩, (FsR_iff r vs).2 ⟨h1, fun e he => h2 e (List.mem_cons_of_mem _ he)⟩⟩
theorem LsR_iff : ∀ (x : List V) (es : List (List Value)), DRss h (encL x) es ↔ LsR h x es ∧ ∀ e ∈ es, e.length = 7
 | [], es => by rw [encL, DRss, LsR]; exact ⟨fun e => ⟨e, by rw [e]; intro _ hm; cases hm⟩, fun e => e.1⟩
 | x :: r, es => by
  rw [encL, DRss_cons, LsR]
  constructor
  ·rintro ⟨xc, vs, rfl, hx, hr⟩
   obtain ⟨h1, h2⟩ := (LsR_iff r vs).1 hr
   have hx := (VR_iff x xc).1 hx
   exact ⟨⟨xc, vs, rfl, hx, h1⟩, fun e he => by rcases List.mem_cons.1 he with rfl | he; (· exact hx.len); exact h2 e he⟩
  ·rintro ⟨⟨xc, vs, rfl, hx, h1⟩, h2⟩
   exact ⟨xc, vs, rfl, (VR_iff x xc).2 hx, (LsR_iff r vs).2 ⟨h1, fun e he => h2 e (List.mem_cons_of_mem _ he)⟩⟩
theorem PsR_iff : ∀ (x : List (V × V)) (es : List (List Value)), DRss h (encP x) es ↔ PsR h x es ∧ ∀ e ∈ es, e.length = 14
 | [], es => by rw [encP, DRss, PsR]; exact ⟨fun e => ⟨e, by rw [e]; intro _ hm; cases hm⟩, fun e => e.1⟩
 | (k, x) :: r, es => by
  rw [encP, DRss_cons, PsR]
  simp only [DRs_app]
  constructor
  ·rintro ⟨_, vs, rfl, ⟨kc, xc, rfl, hk, hx⟩, hr⟩
   obtain ⟨h1, h2⟩ := (PsR_iff r vs).1 hr
   have hk := (VR_iff k kc).1 hk; have hx := (VR_iff x xc).1 hx
   exact ⟨⟨kc, xc, vs, rfl, hk, hx, h1⟩, fun e he => by rcases List.mem_cons.1 he with rfl | he; (· rw [List.length_append, hk.len, hx.len]); exact h2 e he⟩
  ·rintro ⟨⟨kc, xc, vs, rfl, hk, hx, h1⟩, h2⟩
   exact ⟨_, vs, rfl, ⟨kc, xc, rfl, (VR_iff k kc).2 hk, (VR_iff x xc).2 hx⟩, (PsR_iff r vs).2 ⟨h1, fun e he => h2 e (List.mem_cons_of_mem _ he)⟩⟩
end
mutual
theorem ER_iff : ∀ (x : E) (cs : List Value), DRs h (encE x) cs ↔ ER h x cs
 | .mk k o n f r ro rn s ks, cs => by
  rw [encE, ER]
  simp only [DRs_cons, DRs_app, DR_int, DR_str, DR_bool]
  constructor
  ·rintro ⟨_, _, rfl, rfl, oc, _, rfl, ho, nc, _, rfl, hn, fv, _, rfl, hf, _, _, rfl, rfl, _, _, rfl, ⟨rfl, h1⟩, _, _, rfl, ⟨rfl, h2⟩, sv, _, rfl, hl, kv, _, rfl, hp, h3⟩
   rw [DRs] at h3; subst h3
   rw [DR] at hf hl hp
   obtain ⟨s1, fe, f1, f2⟩ := hf
   obtain ⟨s2, le, l1, l2⟩ := hl
   obtain ⟨s3, pe, p1, p2⟩ := hp
   obtain ⟨f3, f4⟩ := (EFs_iff f fe).1 f2
   obtain ⟨l3, l4⟩ := (ESs_iff s le).1 l2
   obtain ⟨p3, p4⟩ := (EKs_iff ks pe).1 p2
   exact ⟨oc, nc, fv, sv, kv, fe, le, pe, rfl, ⟨h1, h2⟩, ⟨(VR_iff o oc).1 ho, (VR_iff n nc).1 hn⟩, ⟨f1.re f4, l1.re l4, p1.re p4⟩, f3, l3, p3⟩
  ·rintro ⟨oc, nc, fv, lv, pv, fe, le, pe, rfl, ⟨h1, h2⟩, ⟨ho, hn⟩, ⟨f1, l1, p1⟩, f3, l3, p3⟩
   exact ⟨_, _, rfl, rfl, oc, _, rfl, (VR_iff o oc).2 ho, nc, _, rfl, (VR_iff n nc).2 hn, fv, _, rfl, by rw [DR]; exact ⟨22, fe, f1, (EFs_iff f fe).2 ⟨f3, f1.sizes⟩⟩, _, _, rfl, rfl, _, _, rfl, ⟨rfl, h1⟩, _, _, rfl, ⟨rfl, h2⟩, lv, _, rfl, by rw [DR]; exact ⟨30, le, l1, (ESs_iff s le).2 ⟨l3, l1.sizes⟩⟩, pv, _, rfl, by rw [DR]; exact ⟨28, pe, p1, (EKs_iff ks pe).2 ⟨p3, p1.sizes⟩⟩, by rw [DRs]⟩
theorem EFs_iff : ∀ (x : List (Int × E)) (es : List (List Value)), DRss h (encEF x) es ↔ EFs h x es ∧ ∀ e ∈ es, e.length = 22
 | [], es => by rw [encEF, DRss, EFs]; exact ⟨fun e => ⟨e, by rw [e]; intro _ hm; cases hm⟩, fun e => e.1⟩
 | (n, x) :: r, es => by
  rw [encEF, DRss_cons, EFs]
  simp only [DRs_cons, DR_int]
  constructor
  ·rintro ⟨_, vs, rfl, ⟨_, xc, rfl, rfl, hx⟩, hr⟩
   obtain ⟨h1, h2⟩ := (EFs_iff r vs).1 hr
   have hx := (ER_iff x xc).1 hx
   exact ⟨⟨xc, vs, rfl, hx, h1⟩, fun e he => by rcases List.mem_cons.1 he with rfl | he; (· rw [List.length_cons, hx.len]); exact h2 e he⟩
  ·rintro ⟨⟨xc, vs, rfl, hx, h1⟩, h2⟩
   exact ⟨_, vs, rfl, ⟨_, xc, rfl, rfl, (ER_iff x xc).2 hx⟩, (EFs_iff r vs).2 ⟨h1, fun e he => h2 e (List.mem_cons_of_mem _ he)⟩⟩
theorem ESs_iff : ∀ (x : List (Int × Int × V × E)) (es : List (List Value)), DRss h (encES x) es ↔ ESs h x es ∧ ∀ e ∈ es, e.length = 30
 | [], es => by rw [encES, DRss, ESs]; exact ⟨fun e => ⟨e, by rw [e]; intro _ hm; cases hm⟩, fun e => e.1⟩
 | (k, c, v, x) :: r, es => by
  rw [encES, DRss_cons, ESs]
  simp only [DRs_cons, DRs_app, DR_int]
  constructor
  ·rintro ⟨_, vs, rfl, ⟨_, _, rfl, rfl, _, _, rfl, rfl, vc, xc, rfl, hv, hx⟩, hr⟩
   obtain ⟨h1, h2⟩ := (ESs_iff r vs).1 hr
   have hv := (VR_iff v vc).1 hv; have hx := (ER_iff x xc).1 hx
   exact ⟨⟨vc, xc, vs, rfl, hv, hx, h1⟩, fun e he => by rcases List.mem_cons.1 he with rfl | he; (· rw [List.length_cons, List.length_cons, List.length_append, hv.len, hx.len]); exact h2 e he⟩
  ·rintro ⟨⟨vc, xc, vs, rfl, hv, hx, h1⟩, h2⟩
   exact ⟨_, vs, rfl, ⟨_, _, rfl, rfl, _, _, rfl, rfl, vc, xc, rfl, (VR_iff v vc).2 hv, (ER_iff x xc).2 hx⟩, (ESs_iff r vs).2 ⟨h1, fun e he => h2 e (List.mem_cons_of_mem _ he)⟩⟩
theorem EKs_iff : ∀ (x : List (V × E)) (es : List (List Value)), DRss h (encEK x) es ↔ EKs h x es ∧ ∀ e ∈ es, e.length = 28
 | [], es => by rw [encEK, DRss, EKs]; exact ⟨fun e => ⟨e, by rw [e]; intro _ hm; cases hm⟩, fun e => e.1⟩
 | (k, x) :: r, es => by
  rw [encEK, DRss_cons, EKs]
  simp only [DRs_app]
  constructor
  ·rintro ⟨_, vs, rfl, ⟨kc, xc, rfl, hk, hx⟩, hr⟩
   obtain ⟨h1, h2⟩ := (EKs_iff r vs).1 hr
   have hk := (VR_iff k kc).1 hk; have hx := (ER_iff x xc).1 hx
   exact ⟨⟨kc, xc, vs, rfl, hk, hx, h1⟩, fun e he => by rcases List.mem_cons.1 he with rfl | he; (· rw [List.length_append, hk.len, hx.len]); exact h2 e he⟩
  ·rintro ⟨⟨kc, xc, vs, rfl, hk, hx, h1⟩, h2⟩
   exact ⟨_, vs, rfl, ⟨kc, xc, rfl, (VR_iff k kc).2 hk, (ER_iff x xc).2 hx⟩, (EKs_iff r vs).2 ⟨h1, fun e he => h2 e (List.mem_cons_of_mem _ he)⟩⟩
end
end
def cellsP (n : Nat) (c : List DV) : List PV := (List.range n).map fun i => .d fun _ => cellAt c i
theorem cells_ok {N : Nm} {h : Frag} : ∀ (c : List DV) (ws : List Value), PVRs N h (c.map fun x => .d fun _ => x) ws ↔ DRs h c ws
 | [], ws => by rw [List.map_nil, PVRs, DRs]
 | x :: r, ws => by
  rw [List.map_cons, PVRs, DRs]
  constructor
  ·rintro ⟨v, vs, rfl, h1, h2⟩; rw [PVR] at h1; exact ⟨v, vs, rfl, h1, (cells_ok r vs).1 h2⟩
  ·rintro ⟨v, vs, rfl, h1, h2⟩; exact ⟨v, vs, rfl, by rw [PVR]; exact h1, (cells_ok r vs).2 h2⟩
theorem cellsP_eq {n : Nat} {c : List DV} (hl : c.length = n) : cellsP n c = c.map fun x => .d fun _ => x := by
 unfold cellsP
 refine List.ext_getElem (by simp [hl]) (fun i h1 h2 => ?_)
 simp only [List.getElem_map, List.getElem_range]
 have : i < c.length := by simpa using h2
 unfold cellAt
 simp [List.getD_eq_getElem?_getD, List.getElem?_eq_getElem this]
theorem cellsP_ok {N : Nm} {h : Frag} {n : Nat} {c : List DV} (hl : c.length = n) {v : Value} : PVR N h (.agg (cellsP n c)) v ↔ ∃ ws, v = .agg ws.toArray ∧ DRs h c ws := by
 rw [PVR, cellsP_eq hl]
 constructor
 ·rintro ⟨ws, rfl, h1, _⟩; exact ⟨ws, rfl, (cells_ok c ws).1 h1⟩
 ·rintro ⟨ws, rfl, h1⟩; exact ⟨ws, rfl, (cells_ok c ws).2 h1, h1.ones⟩
theorem encV_len (x : V) : (encV x).length = 7 := by cases x; rw [encV]; rfl
theorem encE_len (x : E) : (encE x).length = 21 := by cases x; rw [encE]; simp [encV_len]
theorem PRun.old {P : Program} {G : List (Nat × List DV)} {f : FuncId} {args : List PV} {fr : List Nat} {r : PV} (hf : ∃ fn, P.funcs[f]? = some fn ∧ fn.body.isSome = true ∧ (fn.name == "runtime.NumGoroutine") = false)
  (h : ∀ (Fl : List (Option Nat)) (w : World) (N : Nm) (vs : List Value), (∀ k, some k ∈ Fl → k < w.heap.size) → (∀ g cs, (g, cs) ∈ G → GlR (fragE w Fl) g cs) → PVRs N (fragE w Fl) args vs →
   Calls P f vs.toArray w (fun e w' => Below w.heap.size w w' ∧ ∃ v, e = .returned v ∧ PVR N (fragE w' Fl) r v)) : PRun P G f args [] fr r [] := by
 refine ⟨hf, fun F Xp dm N w vs hfr hM hA => ?_⟩
 classical
 let Fl : List (Option Nat) := (List.range w.heap.size).filterMap fun k => if F k then some (some k) else none
 have hFl : ∀ k, some k ∈ Fl ↔ F k := fun k => by
  simp only [Fl, List.mem_filterMap, List.mem_range]
  constructor
  ·rintro ⟨a, ha, e⟩
   split at e
   ·cases e; assumption
   ·cases e
  ·intro hk; exact ⟨k, hM.flt k hk, by rw [if_pos hk]⟩
 have hrd : ∀ wx N', rd F N' (lk []) wx = fragE wx Fl := fun wx N' => by
  funext k
  show fragX wx _ k = _
  unfold fragX fragE
  by_cases hk : F k
  ·rw [if_pos ((hFl k).2 hk), if_pos (.inl hk)]
  ·rw [if_neg (fun e => hk ((hFl k).1 e)), if_neg (fun e => by rcases e with e | ⟨b, ob, e, _⟩; (· exact hk e); cases e)]
 rw [hrd] at hA
 refine (h Fl w N vs (fun k hk => hM.flt k ((hFl k).1 hk)) (fun g cs hg => by have := hM.glob g cs hg; rwa [hrd] at this) hA).mono ?_
 rintro e w' ⟨hb, v, rfl, hv⟩
 refine ⟨v, N, rfl, Nm.up.refl _ _, ⟨Ext.of_below hb Xp, hM.flt, fun b ob e => (by cases e), fun b b' ob ob' g e => (by cases e), fun b ob g e => (by cases e), fun b hb' => hM.dom b (fun h => hb' (.inl h)), fun g cs hg => ?_⟩, by rw [hrd]; exact hv⟩
 have := hM.glob g cs hg
 rw [hrd] at this ⊢
 exact this.mono (belowE hb (fun k hk => .inl hk))
end Go.Proofs.YtlmbcoecipbblaaGreatDoor
namespace Go.Proofs.YtlmbcoecipbblaaGreatDoor.Val
theorem ocmp_refl (a : Int) : ocmp a a = 0 := by simp [ocmp]
theorem ocmp_zero {a b : Int} (h : ocmp a b = 0) : a = b := by
 unfold ocmp at h; split at h
 ·cases h
 ·split at h
  ·cases h
  ·omega
theorem ocmp_neg {a b : Int} : ocmp a b < 0 ↔ a < b := by
 unfold ocmp; split
 ·simp [*]
 ·split <;> simp <;> omega
theorem ocmp_pos {a b : Int} : 0 < ocmp a b ↔ b < a := by
 unfold ocmp; split
 ·simp; omega
 ·split <;> simp <;> omega
theorem less_irrefl : ∀ l : List UInt8, Op.bytesLess l l = false
 | [] => rfl
 | a :: r => by
  have h := less_irrefl r
  simp [Op.bytesLess, h]
theorem less_trans : ∀ {a b c : List UInt8}, Op.bytesLess a b = true → Op.bytesLess b c = true → Op.bytesLess a c = true
 | [], _ :: _, _ :: _, _, _ => rfl
 | a :: x, b :: y, c :: z, h1, h2 => by
  simp only [Op.bytesLess, Bool.or_eq_true, decide_eq_true_eq, Bool.and_eq_true, beq_iff_eq] at *
  rcases h1 with h1 | ⟨rfl, h1⟩
  ·rcases h2 with h2 | ⟨rfl, h2⟩
   ·left; exact UInt8.lt_trans h1 h2
   ·left; exact h1
  ·rcases h2 with h2 | ⟨rfl, h2⟩
   ·left; exact h2
   ·right; exact ⟨rfl, less_trans h1 h2⟩
theorem less_total : ∀ (a b : List UInt8), Op.bytesLess a b = false → a ≠ b → Op.bytesLess b a = true
 | [], [], _, h => absurd rfl h
 | [], _ :: _, h, _ => by simp [Op.bytesLess] at h
 | _ :: _, [], _, _ => rfl
 | a :: x, b :: y, h, hne => by
  simp only [Op.bytesLess, Bool.or_eq_false_iff, decide_eq_false_iff_not, Bool.and_eq_false_iff, beq_eq_false_iff_ne, Bool.or_eq_true, decide_eq_true_eq, Bool.and_eq_true, beq_iff_eq] at *
  obtain ⟨h1, h2⟩ := h
  by_cases e : a = b
  ·subst e
   right
   refine ⟨rfl, less_total x y (h2.resolve_left (fun h => h rfl)) (fun e => hne (by rw [e]))⟩
  ·left
   have h1' := UInt8.not_lt.1 h1
   exact UInt8.lt_of_le_of_ne h1' (fun e2 => e e2.symm)
theorem bytes_ext {a b : ByteArray} (h : a.toList = b.toList) : a = b := by
 rw [ByteArray.toList_eq, ByteArray.toList_eq] at h
 cases a; cases b
 congr
 exact Array.toList_inj.1 h
theorem bytes_empty {a : ByteArray} (h : a.size = 0) : a = ByteArray.empty := by
 cases a with
 | mk d =>
  have : d = #[] := Array.eq_empty_of_size_eq_zero h
  rw [this]; rfl
theorem scmp_refl (a : ByteArray) : scmp a a = 0 := by simp [scmp, less_irrefl]
theorem scmp_zero {a b : ByteArray} (h : scmp a b = 0) : a = b := by
 unfold scmp at h; split at h
 ·cases h
 ·split at h
  ·exact bytes_ext ‹_›
  ·cases h
theorem scmp_neg {a b : ByteArray} : scmp a b < 0 ↔ Op.bytesLess a.toList b.toList = true := by
 unfold scmp; split
 ·simp [*]
 ·split <;> simp_all
theorem scmp_pos {a b : ByteArray} : 0 < scmp a b ↔ Op.bytesLess b.toList a.toList = true := by
 unfold scmp; split
 ·rename_i h
  simp
  cases e : Op.bytesLess b.toList a.toList with
  | false => rfl
  | true => have := less_trans h e; rw [less_irrefl] at this; cases this
 ·rename_i h
  split
  ·rename_i h2; rw [h2]; simp [less_irrefl]
  ·rename_i h2
   simp only [Int.zero_lt_one, true_iff]
   exact less_total _ _ (by simpa using h) h2
theorem orr_zero {a b : Int} (h : orr a b = 0) : a = 0 ∧ b = 0 := by
 unfold orr at h; split at h
 ·exact ⟨‹_›, h⟩
 ·exact absurd h ‹_›
mutual
theorem cmp_refl : ∀ v : V, cmp v v = 0
 | .mk k n t fs r l ps => by
  rw [cmp, if_pos rfl, ocmp_refl, scmp_refl, cmpF_refl fs, scmp_refl, cmpL_refl l, cmpP_refl ps]
  simp [orr]
theorem cmpF_refl : ∀ fs : List (Int × V), cmpF fs fs = 0
 | [] => by rw [cmpF]
 | (n, v) :: r => by rw [cmpF, ocmp_refl, cmp_refl v, cmpF_refl r]; simp [orr]
theorem cmpL_refl : ∀ fs : List V, cmpL fs fs = 0
 | [] => by rw [cmpL]
 | v :: r => by rw [cmpL, cmp_refl v, cmpL_refl r]; simp [orr]
theorem cmpP_refl : ∀ fs : List (V × V), cmpP fs fs = 0
 | [] => by rw [cmpP]
 | (n, v) :: r => by rw [cmpP, cmp_refl n, cmp_refl v, cmpP_refl r]; simp [orr]
end
theorem right_parts {k n : Int} {t : ByteArray} {fs : List (Int × V)} {r : ByteArray} {l : List V} {ps : List (V × V)} (h : right (.mk k n t fs r l ps) = true) :
  (k = 1 ∨ n = 0) ∧ (k = 2 ∨ t = ByteArray.empty) ∧ (k = 3 ∨ fs = []) ∧ (k = 3 ∨ r = ByteArray.empty) ∧ (k = 4 ∨ l = []) ∧ (k = 5 ∨ ps = []) ∧
  (k = 0 ∨ k = 1 ∨ k = 2 ∨ (k = 3 ∧ rightF 0 fs = true) ∨ (k = 4 ∧ 0 < l.length ∧ rightL l = true) ∨ (k = 5 ∧ 0 < ps.length ∧ rightP none ps = true)) := by
 rw [right, Bool.and_eq_true] at h
 obtain ⟨h1, h2⟩ := h
 unfold bareV at h1
 simp only [decide_eq_true_eq, List.length_eq_zero_iff] at h1
 obtain ⟨a1, a2, a3, a4, a5, a6⟩ := h1
 refine ⟨a1, a2.imp_right bytes_empty, a3, a4.imp_right bytes_empty, a5, a6, ?_⟩
 split at h2
 ·rename_i h; rcases h with h | h | h
  ·exact .inl h
  ·exact .inr (.inl h)
  ·exact .inr (.inr (.inl h))
 ·split at h2
  ·exact .inr (.inr (.inr (.inl ⟨‹_›, h2⟩)))
  ·split at h2
   ·simp only [Bool.and_eq_true, decide_eq_true_eq] at h2
    exact .inr (.inr (.inr (.inr (.inl ⟨‹_›, h2⟩))))
   ·split at h2
    ·simp only [Bool.and_eq_true, decide_eq_true_eq] at h2
     exact .inr (.inr (.inr (.inr (.inr ⟨‹_›, h2⟩))))
    ·cases h2
mutual
theorem cmp_eq : ∀ (a b : V), right a = true → right b = true → cmp a b = 0 → a = b
 | .mk k n t fs r l ps, .mk k' n' t' fs' r' l' ps', ha, hb, h => by
  rw [cmp] at h
  split at h
  case isFalse hk => exact absurd (ocmp_zero h) hk
  case isTrue hk =>
  subst hk
  obtain ⟨a1, a2, a3, a4, a5, a6, a7⟩ := right_parts ha
  obtain ⟨b1, b2, b3, b4, b5, b6, b7⟩ := right_parts hb
  rcases a7 with rfl | rfl | rfl | ⟨rfl, a7⟩ | ⟨rfl, _, a7⟩ | ⟨rfl, _, a7⟩
  ·simp at a1 a2 a3 a4 a5 a6 b1 b2 b3 b4 b5 b6; simp [*]
  ·simp at a2 a3 a4 a5 a6 b2 b3 b4 b5 b6 h
   have := ocmp_zero h; simp [*]
  ·simp at a1 a3 a4 a5 a6 b1 b3 b4 b5 b6 h
   have := scmp_zero h; simp [*]
  ·simp at a1 a2 a5 a6 b1 b2 b5 b6 h
   obtain ⟨h1, h2⟩ := orr_zero h
   simp at b7
   have e1 := cmpF_eq fs fs' 0 0 a7 b7 h1
   have e2 := scmp_zero h2
   simp [*]
  ·simp at a1 a2 a3 a4 a6 b1 b2 b3 b4 b6 h
   simp at b7
   have e1 := cmpL_eq l l' a7 b7.2 h
   simp [*]
  ·simp at a1 a2 a3 a4 a5 b1 b2 b3 b4 b5 h
   simp at b7
   have e1 := cmpP_eq ps ps' none none a7 b7.2 h
   simp [*]
theorem cmpF_eq : ∀ (a b : List (Int × V)) (i j : Int), rightF i a = true → rightF j b = true → cmpF a b = 0 → a = b
 | [], [], _, _, _, _, _ => rfl
 | [], _ :: _, _, _, _, _, h => by rw [cmpF] at h; cases h
 | _ :: _, [], _, _, _, _, h => by rw [cmpF] at h; cases h
 | (n, v) :: r, (n', v') :: r', i, j, ha, hb, h => by
  rw [cmpF] at h
  rw [rightF] at ha hb
  simp only [Bool.and_eq_true] at ha hb
  obtain ⟨h1, h2⟩ := orr_zero h
  obtain ⟨h1, h3⟩ := orr_zero h1
  rw [ocmp_zero h1, cmp_eq v v' ha.1.2 hb.1.2 h3, cmpF_eq r r' _ _ ha.2 hb.2 h2]
theorem cmpL_eq : ∀ (a b : List V), rightL a = true → rightL b = true → cmpL a b = 0 → a = b
 | [], [], _, _, _ => rfl
 | [], _ :: _, _, _, h => by rw [cmpL] at h; cases h
 | _ :: _, [], _, _, h => by rw [cmpL] at h; cases h
 | v :: r, v' :: r', ha, hb, h => by
  rw [cmpL] at h
  rw [rightL] at ha hb
  simp only [Bool.and_eq_true] at ha hb
  obtain ⟨h1, h2⟩ := orr_zero h
  rw [cmp_eq v v' ha.1.2 hb.1.2 h1, cmpL_eq r r' ha.2 hb.2 h2]
theorem cmpP_eq : ∀ (a b : List (V × V)) (i j : Option V), rightP i a = true → rightP j b = true → cmpP a b = 0 → a = b
 | [], [], _, _, _, _, _ => rfl
 | [], _ :: _, _, _, _, _, h => by rw [cmpP] at h; cases h
 | _ :: _, [], _, _, _, _, h => by rw [cmpP] at h; cases h
 | (n, v) :: r, (n', v') :: r', i, j, ha, hb, h => by
  rw [cmpP] at h
  rw [rightP.eq_def] at ha hb
  simp only [Bool.and_eq_true] at ha hb
  obtain ⟨h1, h2⟩ := orr_zero h
  obtain ⟨h1, h3⟩ := orr_zero h1
  rw [cmp_eq n n' ha.1.1.1.2 hb.1.1.1.2 h1, cmp_eq v v' ha.1.1.2.2 hb.1.1.2.2 h3, cmpP_eq r r' _ _ ha.2 hb.2 h2]
end
theorem cmp_iff {a b : V} (ha : right a = true) (hb : right b = true) : cmp a b = 0 ↔ a = b := ⟨cmp_eq a b ha hb, fun e => e ▸ cmp_refl a⟩
def keyV (v : V) : Prop := v.kind = 1 ∨ v.kind = 2
theorem cmp_kinds {a b : V} (h : a.kind ≠ b.kind) : cmp a b = ocmp a.kind b.kind := by
 cases a; cases b; simp only [V.kind] at h ⊢; rw [cmp, if_neg h]
theorem cmp_num {a b : V} (h : a.kind = 1) (h2 : b.kind = 1) : cmp a b = ocmp a.num b.num := by
 cases a; cases b; simp only [V.kind] at h h2; subst h; subst h2; rw [cmp, if_pos rfl, if_pos rfl]; rfl
theorem cmp_text {a b : V} (h : a.kind = 2) (h2 : b.kind = 2) : cmp a b = scmp a.text b.text := by
 cases a; cases b; simp only [V.kind] at h h2; subst h; subst h2; rw [cmp, if_pos rfl]; simp [V.text]
theorem key_trans {a b c : V} (ha : keyV a) (hb : keyV b) (hc : keyV c) (h1 : cmp a b < 0) (h2 : cmp b c < 0) : cmp a c < 0 := by
 by_cases e1 : a.kind = b.kind
 ·by_cases e2 : b.kind = c.kind
  ·rcases ha with ha | ha
   ·rw [cmp_num ha (e1 ▸ ha), ocmp_neg] at h1
    rw [cmp_num (e1 ▸ ha) (e2 ▸ e1 ▸ ha), ocmp_neg] at h2
    rw [cmp_num ha (e2 ▸ e1 ▸ ha), ocmp_neg]; omega
   ·rw [cmp_text ha (e1 ▸ ha), scmp_neg] at h1
    rw [cmp_text (e1 ▸ ha) (e2 ▸ e1 ▸ ha), scmp_neg] at h2
    rw [cmp_text ha (e2 ▸ e1 ▸ ha), scmp_neg]; exact less_trans h1 h2
  ·rw [cmp_kinds e2, ocmp_neg] at h2
   rw [cmp_kinds (by rw [e1]; exact e2), ocmp_neg]; omega
 ·rw [cmp_kinds e1, ocmp_neg] at h1
  by_cases e2 : b.kind = c.kind
  ·rw [cmp_kinds (by rw [← e2]; exact e1), ocmp_neg]; omega
  ·rw [cmp_kinds e2, ocmp_neg] at h2
   have : a.kind ≠ c.kind := by omega
   rw [cmp_kinds this, ocmp_neg]; omega
theorem key_anti {a b : V} (ha : keyV a) (hb : keyV b) : cmp a b < 0 ↔ 0 < cmp b a := by
 by_cases e : a.kind = b.kind
 ·rcases ha with ha | ha
  ·rw [cmp_num ha (e ▸ ha), cmp_num (e ▸ ha) ha, ocmp_neg, ocmp_pos]
  ·rw [cmp_text ha (e ▸ ha), cmp_text (e ▸ ha) ha, scmp_neg, scmp_pos]
 ·rw [cmp_kinds e, cmp_kinds (fun h => e h.symm), ocmp_neg, ocmp_pos]
end Go.Proofs.YtlmbcoecipbblaaGreatDoor.Val
namespace Go.Proofs.YtlmbcoecipbblaaGreatDoor.Val
section
variable {κ : Type} (c : κ → κ → Int) (K : κ → Prop)
def gpos (d : κ) (l : List (κ × V)) (n : κ) : Nat := firstGe (fun i => c (l.getD i (d, v0)).1 n) l.length
def ghit (d : κ) (l : List (κ × V)) (n : κ) : Bool := decide (gpos c d l n < l.length) && decide (c (l.getD (gpos c d l n) (d, v0)).1 n = 0)
def look : List (κ × V) → κ → Option V
 | [], _ => none
 | (m, y) :: r, n => if c m n < 0 then look r n else if c m n = 0 then some y else none
def ins : List (κ × V) → κ → V → List (κ × V)
 | [], n, x => if x.kind ≠ 0 then [(n, x)] else []
 | (m, y) :: r, n, x => if c m n < 0 then (m, y) :: ins r n x else if c m n = 0 then (if x.kind ≠ 0 then (n, x) :: r else r) else (if x.kind ≠ 0 then (n, x) :: (m, y) :: r else (m, y) :: r)
theorem gpos_cons (d m n : κ) (y : V) (r : List (κ × V)) : gpos c d ((m, y) :: r) n = if c m n < 0 then gpos c d r n + 1 else 0 := by
 unfold gpos
 rw [List.length_cons, firstGe.eq_def]
 simp
theorem ghit_cons (d m n : κ) (y : V) (r : List (κ × V)) : ghit c d ((m, y) :: r) n = if c m n < 0 then ghit c d r n else decide (c m n = 0) := by
 unfold ghit
 rw [gpos_cons]
 by_cases h : c m n < 0
 ·simp [h]
 ·simp [h]
theorem look_eq (d : κ) : ∀ (l : List (κ × V)) (n : κ), (if ghit c d l n = true then some (l.getD (gpos c d l n) (d, v0)).2 else none) = look c l n
 | [], n => by simp [ghit, gpos, firstGe, look]
 | (m, y) :: r, n => by
  have ih := look_eq d r n
  rw [look, ghit_cons, gpos_cons]
  by_cases h : c m n < 0
  ·simp only [h, if_true]; rw [← ih]; simp
  ·simp only [h, if_false]; by_cases h2 : c m n = 0 <;> simp [h2]
theorem ins_eq (d : κ) : ∀ (l : List (κ × V)) (n : κ) (x : V), spl l (gpos c d l n) (one (ghit c d l n)) (decide (x.kind ≠ 0)) (n, x) = ins c l n x
 | [], n, x => by simp [gpos, ghit, firstGe, spl, one, ins]
 | (m, y) :: r, n, x => by
  have ih := ins_eq d r n x
  rw [ins, ghit_cons, gpos_cons]
  by_cases h : c m n < 0
  ·simp only [h, if_true]
   rw [← ih]
   unfold spl
   rw [List.take_succ_cons, List.cons_append, show gpos c d r n + 1 + one (ghit c d r n) = (gpos c d r n + one (ghit c d r n)) + 1 by omega, List.drop_succ_cons]
  ·simp only [h, if_false]
   by_cases h2 : c m n = 0
   ·by_cases h3 : x.kind = 0 <;> simp [spl, one, h2, h3]
   ·by_cases h3 : x.kind = 0 <;> simp [spl, one, h2, h3]
structure Ord : Prop where
 trans : ∀ {a b d}, K a → K b → K d → c a b < 0 → c b d < 0 → c a d < 0
 anti : ∀ {a b}, K a → K b → (c a b < 0 ↔ 0 < c b a)
 zero : ∀ {a b}, K a → K b → (c a b = 0 ↔ a = b)
def Srt (l : List (κ × V)) : Prop := (∀ e ∈ l, K e.1) ∧ l.Pairwise (fun a b => c a.1 b.1 < 0)
variable {c K} (O : Ord c K)
include O
theorem Ord.self {a : κ} (ha : K a) : c a a = 0 := (O.zero ha ha).2 rfl
theorem Srt.tail {e : κ × V} {r : List (κ × V)} (h : Srt c K (e :: r)) : Srt c K r := ⟨fun x hx => h.1 x (by simp [hx]), (List.pairwise_cons.1 h.2).2⟩
theorem look_ahead : ∀ {l : List (κ × V)} {n : κ}, Srt c K l → K n → (∀ e ∈ l, c n e.1 < 0) → look c l n = none
 | [], _, _, _, _ => rfl
 | (m, y) :: r, n, hs, hn, h => by
  have h1 : c n m < 0 := h (m, y) (by simp)
  have hm : K m := hs.1 (m, y) (by simp)
  have h2 := (O.anti hn hm).1 h1
  rw [look, if_neg (by omega), if_neg (by omega)]
theorem look_ins_same : ∀ {l : List (κ × V)} {n : κ} (x : V), Srt c K l → K n → look c (ins c l n x) n = if x.kind ≠ 0 then some x else none
 | [], n, x, hs, hn => by
  rw [ins]
  by_cases h : x.kind = 0
  ·simp [h, look]
  ·simp [h, look, O.self hn]
 | (m, y) :: r, n, x, hs, hn => by
  have hm : K m := hs.1 (m, y) (by simp)
  have ih := look_ins_same x (Srt.tail O hs) hn
  rw [ins]
  by_cases h1 : c m n < 0
  ·rw [if_pos h1, look, if_pos h1, ih]
  ·rw [if_neg h1]
   by_cases h2 : c m n = 0
   ·rw [if_pos h2]
    by_cases h : x.kind = 0
    ·simp only [h, ne_eq, not_true, if_false]
     have e := (O.zero hm hn).1 h2
     subst e
     exact look_ahead O (Srt.tail O hs) hn (fun e he => (List.pairwise_cons.1 hs.2).1 e he)
    ·simp [h, look, O.self hn]
   ·rw [if_neg h2]
    by_cases h : x.kind = 0
    ·simp [h, look, h1, h2]
    ·simp [h, look, O.self hn]
theorem look_ins_ne : ∀ {l : List (κ × V)} {n m : κ} (x : V), Srt c K l → K n → K m → m ≠ n → look c (ins c l n x) m = look c l m
 | [], n, m, x, hs, hn, hm, hne => by
  rw [ins]
  by_cases h : x.kind = 0
  ·simp [h]
  ·have h2 : ¬ c n m = 0 := fun e => hne ((O.zero hn hm).1 e).symm
   simp [h, look, h2]
 | (a, y) :: r, n, m, x, hs, hn, hm, hne => by
  have ha : K a := hs.1 (a, y) (by simp)
  have ih := look_ins_ne x (Srt.tail O hs) hn hm hne
  have h2 : ¬ c n m = 0 := fun e => hne ((O.zero hn hm).1 e).symm
  rw [ins]
  by_cases h1 : c a n < 0
  ·rw [if_pos h1, look, ih, look]
  ·rw [if_neg h1]
   by_cases h3 : c a n = 0
   ·have e := (O.zero ha hn).1 h3
    subst e
    rw [if_pos h3]
    have hah : c a m < 0 ∨ ¬ c a m < 0 := Classical.em _
    by_cases h : x.kind = 0
    ·simp only [h, ne_eq, not_true, if_false]
     rw [look]
     by_cases h4 : c a m < 0
     ·rw [if_pos h4]
     ·rw [if_neg h4, if_neg h2]
      have h5 : c m a < 0 := (O.anti hm ha).2 (by omega)
      exact look_ahead O (Srt.tail O hs) hm (fun e he => O.trans hm ha (hs.1 e (by simp [he])) h5 ((List.pairwise_cons.1 hs.2).1 e he))
    ·simp only [h, ne_eq, not_false_eq_true, if_true]
     rw [look, look]
     simp [h2]
   ·rw [if_neg h3]
    have hna : c n a < 0 := (O.anti hn ha).2 (by omega)
    by_cases h : x.kind = 0
    ·simp [h]
    ·simp only [h, ne_eq, not_false_eq_true, if_true]
     rw [look]
     by_cases h4 : c n m < 0
     ·rw [if_pos h4]
     ·rw [if_neg h4, if_neg h2]
      have h5 : c m n < 0 := (O.anti hm hn).2 (by omega)
      refine (look_ahead O hs hm (fun e he => ?_)).symm
      have hma := O.trans hm hn ha h5 hna
      rcases List.mem_cons.1 he with rfl | he2
      ·exact hma
      ·exact O.trans hm ha (hs.1 e he) hma ((List.pairwise_cons.1 hs.2).1 e he2)
theorem mem_ins : ∀ {l : List (κ × V)} {n : κ} {x : V} {e : κ × V}, e ∈ ins c l n x → e ∈ l ∨ (e = (n, x) ∧ x.kind ≠ 0)
 | [], n, x, e, h => by
  rw [ins] at h
  split at h
  ·rename_i hk; exact .inr ⟨by simpa using h, hk⟩
  ·simp at h
 | (a, y) :: r, n, x, e, h => by
  rw [ins] at h
  split at h
  ·rcases List.mem_cons.1 h with rfl | h
   ·exact .inl (by simp)
   ·rcases mem_ins h with h | h
    ·exact .inl (by simp [h])
    ·exact .inr h
  ·split at h
   ·split at h
    ·rename_i hk
     rcases List.mem_cons.1 h with rfl | h
     ·exact .inr ⟨rfl, hk⟩
     ·exact .inl (by simp [h])
    ·exact .inl (by simp [h])
   ·split at h
    ·rename_i hk
     rcases List.mem_cons.1 h with rfl | h
     ·exact .inr ⟨rfl, hk⟩
     ·exact .inl h
    ·exact .inl h
theorem srt_ins : ∀ {l : List (κ × V)} {n : κ} (x : V), Srt c K l → K n → Srt c K (ins c l n x)
 | [], n, x, hs, hn => by
  rw [ins]
  split
  ·exact ⟨fun e he => by obtain rfl : e = (n, x) := (by simpa using he); exact hn, by simp⟩
  ·exact hs
 | (a, y) :: r, n, x, hs, hn => by
  have ha : K a := hs.1 (a, y) (by simp)
  have ih := srt_ins x (Srt.tail O hs) hn
  have hp := List.pairwise_cons.1 hs.2
  rw [ins]
  split
  ·rename_i h1
   refine ⟨fun e he => ?_, List.pairwise_cons.2 ⟨fun e he => ?_, ih.2⟩⟩
   ·rcases List.mem_cons.1 he with rfl | he
    ·exact ha
    ·exact ih.1 e he
   ·rcases mem_ins O he with he | ⟨rfl, _⟩
    ·exact hp.1 e he
    ·exact h1
  ·rename_i h1
   split
   ·rename_i h2
    have e := (O.zero ha hn).1 h2
    subst e
    split
    ·exact ⟨fun e he => (List.mem_cons.1 he).elim (fun h => (by subst h; exact ha)) (fun h => hs.1 e (by simp [h])), List.pairwise_cons.2 ⟨hp.1, hp.2⟩⟩
    ·exact Srt.tail O hs
   ·rename_i h2
    have hna : c n a < 0 := (O.anti hn ha).2 (by omega)
    split
    ·refine ⟨fun e he => ?_, List.pairwise_cons.2 ⟨fun e he => ?_, hs.2⟩⟩
     ·rcases List.mem_cons.1 he with rfl | he
      ·exact hn
      ·exact hs.1 e he
     ·rcases List.mem_cons.1 he with rfl | he2
      ·exact hna
      ·exact O.trans hn ha (hs.1 e he) hna (hp.1 e he2)
    ·exact hs
theorem look_mem : ∀ {l : List (κ × V)} {n : κ} {y : V}, Srt c K l → K n → look c l n = some y → (n, y) ∈ l
 | [], _, _, _, _, h => by cases h
 | (a, z) :: r, n, y, hs, hn, h => by
  rw [look] at h
  split at h
  ·exact List.mem_cons_of_mem _ (look_mem (Srt.tail O hs) hn h)
  ·split at h
   ·rename_i h2
    have e := (O.zero (hs.1 (a, z) (by simp)) hn).1 h2
    subst e
    cases h; simp
   ·cases h
theorem mem_look : ∀ {l : List (κ × V)} {n : κ} {y : V}, Srt c K l → (n, y) ∈ l → look c l n = some y
 | (a, z) :: r, n, y, hs, h => by
  have hn : K n := hs.1 _ h
  rw [look]
  rcases List.mem_cons.1 h with h | h
  ·cases h
   rw [if_neg (by rw [O.self hn]; omega), if_pos (O.self hn)]
  ·rw [if_pos ((List.pairwise_cons.1 hs.2).1 _ h)]
   exact mem_look (Srt.tail O hs) h
theorem srt_ext : ∀ {l l' : List (κ × V)}, Srt c K l → Srt c K l' → (∀ n, K n → look c l n = look c l' n) → l = l'
 | [], [], _, _, _ => rfl
 | [], (n, y) :: r, _, hs, h => by
  have hn : K n := hs.1 (n, y) (by simp)
  have := h n hn
  rw [look, mem_look O hs (List.mem_cons_self ..)] at this; cases this
 | (n, y) :: r, [], hs, _, h => by
  have hn : K n := hs.1 (n, y) (by simp)
  have := h n hn
  rw [mem_look O hs (List.mem_cons_self ..), look] at this; cases this
 | (n, y) :: r, (m, z) :: q, hs, ht, h => by
  have hn : K n := hs.1 (n, y) (by simp)
  have hm : K m := ht.1 (m, z) (by simp)
  have ps := List.pairwise_cons.1 hs.2
  have pt := List.pairwise_cons.1 ht.2
  have e1 := h n hn
  rw [mem_look O hs (List.mem_cons_self ..)] at e1
  have m1 := look_mem O ht hn e1.symm
  have e2 := h m hm
  rw [mem_look O ht (List.mem_cons_self ..)] at e2
  have m2 := look_mem O hs hm e2
  have hnm : n = m := by
   rcases List.mem_cons.1 m1 with h1 | h1
   ·cases h1; rfl
   ·rcases List.mem_cons.1 m2 with h2 | h2
    ·cases h2; rfl
    ·have q1 := ps.1 _ h2
     have q2 := pt.1 _ h1
     have q3 := (O.anti hn hm).1 q1
     have q4 : c m n < 0 := q2
     omega
  subst hnm
  have hyz : y = z := by
   rw [mem_look O ht (List.mem_cons_self ..)] at e1; cases e1; rfl
  subst hyz
  rw [srt_ext (Srt.tail O hs) (Srt.tail O ht) (fun k hk => ?_)]
  have := h k hk
  rw [look, look] at this
  by_cases h1 : c n k < 0
  ·simpa [h1] using this
  ·have hr : ∀ {l : List (κ × V)}, Srt c K ((n, y) :: l) → look c l k = none := fun {l} hl => by
    refine look_ahead O (Srt.tail O hl) hk (fun e he => ?_)
    have pe := (List.pairwise_cons.1 hl.2).1 e he
    have ke := hl.1 e (by simp [he])
    by_cases h2 : c k n < 0
    ·exact O.trans hk hn ke h2 pe
    ·have : k = n := (O.zero hk hn).1 (by
      have := mt (O.anti hn hk).2 h1
      omega)
     rw [this]; exact pe
   rw [hr hs, hr ht]
theorem srt_mono (d : κ) {l : List (κ × V)} {n : κ} (hs : Srt c K l) (hn : K n) : MonoN (fun i => c (l.getD i (d, v0)).1 n) l.length := by
 intro i j hij hj h
 simp only [List.getD_eq_getElem?_getD, List.getElem?_eq_getElem hj, List.getElem?_eq_getElem (show i < l.length by omega), Option.getD_some] at h ⊢
 by_cases e : i = j
 ·subst e; exact h
 ·exact O.trans (hs.1 _ (List.getElem_mem _)) (hs.1 _ (List.getElem_mem _)) hn (List.pairwise_iff_getElem.1 hs.2 i j (by omega) hj (by omega)) h
end
end Go.Proofs.YtlmbcoecipbblaaGreatDoor.Val
namespace Go.Proofs.YtlmbcoecipbblaaGreatDoor.Val
def KI (n : Int) : Prop := 1 ≤ n ∧ n ≤ 536870911
def KP (kd : Int) (v : V) : Prop := v.kind = kd ∧ (kd = 1 ∨ kd = 2) ∧ right v = true
theorem KP.key {kd : Int} {v : V} (h : KP kd v) : keyV v := by
 obtain ⟨h1, h2, _⟩ := h; unfold keyV; rw [h1]; exact h2
theorem ordI : Ord ocmp KI where
 trans _ _ _ h1 h2 := by rw [ocmp_neg] at *; omega
 anti _ _ := by rw [ocmp_neg, ocmp_pos]
 zero _ _ := ⟨ocmp_zero, fun e => e ▸ ocmp_refl _⟩
theorem ordP (kd : Int) : Ord cmp (KP kd) where
 trans h1 h2 h3 := key_trans h1.key h2.key h3.key
 anti h1 h2 := key_anti h1.key h2.key
 zero h1 h2 := cmp_iff h1.2.2 h2.2.2
def okF (e : Int × V) : Prop := e.2.kind ≠ 0 ∧ right e.2 = true
theorem rightF_iff : ∀ (fs : List (Int × V)) (last : Int), 0 ≤ last → (rightF last fs = true ↔ Srt ocmp KI fs ∧ ∀ e ∈ fs, last < e.1 ∧ okF e)
 | [], last, _ => by rw [rightF]; exact ⟨fun _ => ⟨⟨by simp, by simp⟩, by simp⟩, fun _ => rfl⟩
 | (n, v) :: r, last, h0 => by
  rw [rightF]
  simp only [Bool.and_eq_true, decide_eq_true_eq]
  constructor
  ·rintro ⟨⟨⟨h1, h2, h3⟩, h4⟩, h5⟩
   obtain ⟨hs, ho⟩ := (rightF_iff r n (by omega)).1 h5
   refine ⟨⟨fun e he => ?_, List.pairwise_cons.2 ⟨fun e he => ocmp_neg.2 (ho e he).1, hs.2⟩⟩, fun e he => ?_⟩
   ·rcases List.mem_cons.1 he with rfl | he
    ·exact ⟨by show 1 ≤ n; omega, h2⟩
    ·exact hs.1 e he
   ·rcases List.mem_cons.1 he with rfl | he
    ·exact ⟨h1, h3, h4⟩
    ·have := ho e he; exact ⟨by omega, this.2⟩
  ·rintro ⟨hs, ho⟩
   have h1 := ho (n, v) (by simp)
   have h2 := hs.1 (n, v) (by simp)
   refine ⟨⟨⟨h1.1, h2.2, h1.2.1⟩, h1.2.2⟩, (rightF_iff r n (by have := h2.1; show 0 ≤ n; have : 1 ≤ n := h2.1; omega)).2 ⟨Srt.tail ordI hs, fun e he => ⟨ocmp_neg.1 ((List.pairwise_cons.1 hs.2).1 e he), (ho e (by simp [he])).2⟩⟩⟩
def okP (e : V × V) : Prop := partB e.2 = true
theorem rightP_some : ∀ (ps : List (V × V)) (p : V), (KP p.kind p) → (rightP (some p) ps = true ↔ Srt cmp (KP p.kind) ps ∧ ∀ e ∈ ps, cmp p e.1 < 0 ∧ okP e)
 | [], p, _ => by rw [rightP]; exact ⟨fun _ => ⟨⟨by simp, by simp⟩, by simp⟩, fun _ => rfl⟩
 | (k, v) :: r, p, hp => by
  rw [rightP.eq_def]
  simp only [Bool.and_eq_true, decide_eq_true_eq]
  constructor
  ·rintro ⟨⟨⟨⟨h1, h2⟩, h3, h4⟩, h5, h6⟩, h7⟩
   have hk : KP k.kind k := ⟨rfl, h1, h2⟩
   obtain ⟨hs, ho⟩ := (rightP_some r k hk).1 h7
   rw [← h5] at hs hk
   refine ⟨⟨fun e he => ?_, List.pairwise_cons.2 ⟨fun e he => (ho e he).1, hs.2⟩⟩, fun e he => ?_⟩
   ·rcases List.mem_cons.1 he with rfl | he
    ·exact hk
    ·exact hs.1 e he
   ·rcases List.mem_cons.1 he with rfl | he
    ·exact ⟨h6, by unfold okP partB; simp [h3, h4]⟩
    ·have := ho e he; exact ⟨(ordP p.kind).trans hp hk (hs.1 e he) h6 this.1, this.2⟩
  ·rintro ⟨hs, ho⟩
   have h1 := ho (k, v) (by simp)
   have h2 : KP p.kind k := hs.1 (k, v) (by simp)
   have h3 := h1.2
   unfold okP partB at h3
   simp only [Bool.and_eq_true, decide_eq_true_eq] at h3
   have hk : KP k.kind k := ⟨rfl, h2.1 ▸ h2.2.1, h2.2.2⟩
   refine ⟨⟨⟨⟨hk.2.1, hk.2.2⟩, h3.1, h3.2⟩, h2.1.symm, h1.1⟩, (rightP_some r k hk).2 ⟨by rw [h2.1]; exact Srt.tail (ordP _) hs, fun e he => ⟨(List.pairwise_cons.1 hs.2).1 e he, (ho e (by simp [he])).2⟩⟩⟩
theorem rightP_none {ps : List (V × V)} (h : rightP none ps = true) : ps = [] ∨ ∃ kd, (∃ e, ps.head? = some e ∧ e.1.kind = kd) ∧ Srt cmp (KP kd) ps ∧ ∀ e ∈ ps, okP e := by
 cases ps with
 | nil => exact .inl rfl
 | cons e r =>
  obtain ⟨k, v⟩ := e
  right
  rw [rightP.eq_def] at h
  simp only [Bool.and_eq_true, decide_eq_true_eq] at h
  obtain ⟨⟨⟨⟨h1, h2⟩, h3, h4⟩, _⟩, h7⟩ := h
  have hk : KP k.kind k := ⟨rfl, h1, h2⟩
  obtain ⟨hs, ho⟩ := (rightP_some r k hk).1 h7
  refine ⟨k.kind, ⟨(k, v), rfl, rfl⟩, ⟨fun e he => ?_, List.pairwise_cons.2 ⟨fun e he => (ho e he).1, hs.2⟩⟩, fun e he => ?_⟩
  ·rcases List.mem_cons.1 he with rfl | he
   ·exact hk
   ·exact hs.1 e he
  ·rcases List.mem_cons.1 he with rfl | he
   ·unfold okP partB; simp [h3, h4]
   ·exact (ho e he).2
theorem rightP_of {ps : List (V × V)} {kd : Int} (hs : Srt cmp (KP kd) ps) (ho : ∀ e ∈ ps, okP e) : rightP none ps = true := by
 cases ps with
 | nil => rw [rightP]
 | cons e r =>
  obtain ⟨k, v⟩ := e
  have h2 : KP kd k := hs.1 (k, v) (by simp)
  have h3 := ho (k, v) (by simp)
  unfold okP partB at h3
  simp only [Bool.and_eq_true, decide_eq_true_eq] at h3
  have hk : KP k.kind k := ⟨rfl, h2.1 ▸ h2.2.1, h2.2.2⟩
  rw [rightP.eq_def]
  simp only [Bool.and_eq_true, decide_eq_true_eq]
  exact ⟨⟨⟨⟨hk.2.1, hk.2.2⟩, h3.1, h3.2⟩, trivial⟩, (rightP_some r k hk).2 ⟨by rw [h2.1]; exact Srt.tail (ordP _) hs, fun e he => ⟨(List.pairwise_cons.1 hs.2).1 e he, ho e (by simp [he])⟩⟩⟩
def mkM (fs : List (Int × V)) (r : ByteArray) : V := .mk 3 0 ByteArray.empty fs r [] []
def mkL (l : List V) : V := if l.length = 0 then v0 else .mk 4 0 ByteArray.empty [] ByteArray.empty l []
def mkP (ps : List (V × V)) : V := if ps.length = 0 then v0 else .mk 5 0 ByteArray.empty [] ByteArray.empty [] ps
theorem right_msg {v : V} (h : right v = true) (hk : v.kind = 3) : v = mkM v.fields v.rest ∧ rightF 0 v.fields = true := by
 obtain ⟨k, n, t, fs, r, l, ps⟩ := v
 simp only [V.kind] at hk; subst hk
 obtain ⟨a1, a2, a3, a4, a5, a6, a7⟩ := right_parts h
 simp at a1 a2 a5 a6 a7
 refine ⟨?_, a7⟩
 simp [mkM, V.fields, V.rest, *]
theorem right_mkM {fs : List (Int × V)} {r : ByteArray} : right (mkM fs r) = rightF 0 fs := by
 unfold mkM
 rw [right]; simp [bareV]
theorem right_v0 : right v0 = true := by unfold v0; rw [right]; simp [bareV]
theorem right_none {v : V} (h : right v = true) (hk : v.kind = 0) : v = v0 := by
 obtain ⟨k, n, t, fs, r, l, ps⟩ := v
 simp only [V.kind] at hk; subst hk
 obtain ⟨a1, a2, a3, a4, a5, a6, a7⟩ := right_parts h
 simp at a1 a2 a3 a4 a5 a6
 simp [v0, *]
theorem right_list {v : V} (h : right v = true) (hk : v.kind = 4 ∨ v.kind = 0) : v = mkL v.list ∧ rightL v.list = true := by
 rcases hk with hk | hk
 ·obtain ⟨k, n, t, fs, r, l, ps⟩ := v
  simp only [V.kind] at hk; subst hk
  obtain ⟨a1, a2, a3, a4, a5, a6, a7⟩ := right_parts h
  simp at a1 a2 a3 a4 a6 a7
  refine ⟨?_, a7.2⟩
  have : l.length ≠ 0 := by have := a7.1; omega
  simp [mkL, V.list, *]
 ·rw [right_none h hk]; exact ⟨by simp [mkL, V.list, v0], by simp [v0, V.list, rightL]⟩
theorem right_mkL {l : List V} (h : rightL l = true) : right (mkL l) = true := by
 unfold mkL
 split
 ·exact right_v0
 ·rw [right]; simp [bareV, h]; omega
theorem right_map {v : V} (h : right v = true) (hk : v.kind = 5 ∨ v.kind = 0) : v = mkP v.pairs ∧ rightP none v.pairs = true := by
 rcases hk with hk | hk
 ·obtain ⟨k, n, t, fs, r, l, ps⟩ := v
  simp only [V.kind] at hk; subst hk
  obtain ⟨a1, a2, a3, a4, a5, a6, a7⟩ := right_parts h
  simp at a1 a2 a3 a4 a5 a7
  refine ⟨?_, a7.2⟩
  have : ps.length ≠ 0 := by have := a7.1; omega
  simp [mkP, V.pairs, *]
 ·rw [right_none h hk]; exact ⟨by simp [mkP, V.pairs, v0], by simp [v0, V.pairs, rightP]⟩
theorem right_mkP {ps : List (V × V)} (h : rightP none ps = true) : right (mkP ps) = true := by
 unfold mkP
 split
 ·exact right_v0
 ·rw [right]; simp [bareV, h]; omega
theorem mkL_list (l : List V) : (mkL l).list = l := by
 unfold mkL; split
 ·rename_i h; simp [v0, V.list, List.eq_nil_of_length_eq_zero h]
 ·rfl
theorem mkP_pairs (l : List (V × V)) : (mkP l).pairs = l := by
 unfold mkP; split
 ·rename_i h; simp [v0, V.pairs, List.eq_nil_of_length_eq_zero h]
 ·rfl
theorem mkP_kind (l : List (V × V)) : (mkP l).kind = 5 ∨ (mkP l).kind = 0 := by
 unfold mkP; split
 ·right; rfl
 ·left; rfl
theorem get_look {v : V} (n : Int) (hk : v.kind = 3) : get v n = (look ocmp v.fields n).getD v0 := by
 rw [← look_eq ocmp 0]
 unfold get
 have e : hitF v.fields n = ghit ocmp 0 v.fields n := rfl
 have e2 : posF v.fields n = gpos ocmp 0 v.fields n := rfl
 rw [e, e2]
 by_cases h : ghit ocmp 0 v.fields n = true <;> simp [h, hk]
theorem with_ins {v : V} {n : Int} (x : V) (hr : right v = true) (hk : v.kind = 3) (hn : KI n) : withV v n x = mkM (ins ocmp v.fields n x) v.rest := by
 have e := (right_msg hr hk).1
 unfold withV
 rw [if_pos ⟨hk, hn⟩, ← ins_eq ocmp 0]
 conv => lhs; rw [e]
 rfl
theorem srt_fields {v : V} (hr : right v = true) (hk : v.kind = 3) : Srt ocmp KI v.fields ∧ ∀ e ∈ v.fields, okF e := by
 obtain ⟨h1, h2⟩ := (rightF_iff v.fields 0 (Int.le_refl _)).1 (right_msg hr hk).2
 exact ⟨h1, fun e he => (h2 e he).2⟩
theorem right_with {v x : V} {n : Int} (hr : right v = true) (hk : v.kind = 3) (hn : KI n) (hx : right x = true) : right (withV v n x) = true := by
 rw [with_ins x hr hk hn, right_mkM]
 obtain ⟨h1, h2⟩ := srt_fields hr hk
 refine (rightF_iff _ 0 (Int.le_refl _)).2 ⟨srt_ins ordI x h1 hn, fun e he => ?_⟩
 rcases mem_ins ordI he with he | ⟨rfl, hx0⟩
 ·have := (h1.1 e he).1; exact ⟨by omega, h2 e he⟩
 ·have := hn.1; exact ⟨by show 0 < n; omega, hx0, hx⟩
theorem right_get {v : V} {n : Int} (hr : right v = true) (hk : v.kind = 3) (hn : KI n) : right (get v n) = true := by
 rw [get_look n hk]
 obtain ⟨h1, h2⟩ := srt_fields hr hk
 cases h : look ocmp v.fields n with
 | none => exact right_v0
 | some y => exact (h2 _ (look_mem ordI h1 hn h)).2
theorem opt_v0 {x : V} (hx : right x = true) : ((if x.kind ≠ 0 then some x else none : Option V)).getD v0 = x := by
 by_cases h : x.kind = 0
 ·simp [h]; exact (right_none hx h).symm
 ·simp [h]
theorem kind_with {v x : V} {n : Int} (hk : v.kind = 3) : (withV v n x).kind = 3 := by
 unfold withV
 split
 ·exact hk
 ·exact hk
theorem rest_with {v x : V} {n : Int} : (withV v n x).rest = v.rest := by
 unfold withV
 split <;> rfl
theorem get_with {v x : V} {n : Int} (hr : right v = true) (hk : v.kind = 3) (hn : KI n) (hx : right x = true) : get (withV v n x) n = x := by
 rw [get_look n (kind_with hk), with_ins x hr hk hn]
 show (look ocmp (ins ocmp v.fields n x) n).getD v0 = x
 rw [look_ins_same ordI x (srt_fields hr hk).1 hn]
 exact opt_v0 hx
theorem get_with_ne {v x : V} {n m : Int} (hr : right v = true) (hk : v.kind = 3) (hn : KI n) (hm : KI m) (hne : m ≠ n) : get (withV v n x) m = get v m := by
 rw [get_look m (kind_with hk), with_ins x hr hk hn, get_look m hk]
 show (look ocmp (ins ocmp v.fields n x) m).getD v0 = _
 rw [look_ins_ne ordI x (srt_fields hr hk).1 hn hm hne]
theorem msg_ext {v w : V} (hv : right v = true) (hw : right w = true) (kv : v.kind = 3) (kw : w.kind = 3) (hr : v.rest = w.rest) (h : ∀ n, KI n → get v n = get w n) : v = w := by
 rw [(right_msg hv kv).1, (right_msg hw kw).1, hr]
 obtain ⟨v1, v2⟩ := srt_fields hv kv
 obtain ⟨w1, w2⟩ := srt_fields hw kw
 rw [srt_ext ordI v1 w1 (fun n hn => ?_)]
 have := h n hn
 rw [get_look n kv, get_look n kw] at this
 cases e1 : look ocmp v.fields n with
 | none =>
  cases e2 : look ocmp w.fields n with
  | none => rfl
  | some z =>
   rw [e1, e2] at this
   have h2 := (w2 _ (look_mem ordI w1 hn e2)).1
   have : v0 = z := this
   rw [← this] at h2
   exact absurd rfl h2
 | some y =>
  have h1 := (v2 _ (look_mem ordI v1 hn e1)).1
  cases e2 : look ocmp w.fields n with
  | none =>
   rw [e1, e2] at this
   have : y = v0 := this
   rw [this] at h1
   exact absurd rfl h1
  | some z =>
   rw [e1, e2] at this
   have : y = z := this
   rw [this]
theorem find_look {v : V} (k : V) (hr : right v = true) (hk : v.kind = 5 ∨ v.kind = 0) : find v k = (look cmp v.pairs k).getD v0 := by
 rw [← look_eq cmp v0]
 unfold find
 have e : hitP v.pairs k = ghit cmp v0 v.pairs k := rfl
 have e2 : posP v.pairs k = gpos cmp v0 v.pairs k := rfl
 rw [e, e2]
 rcases hk with hk | hk
 ·by_cases h : ghit cmp v0 v.pairs k = true <;> simp [h, hk]
 ·have e3 : v.pairs = [] := by rw [right_none hr hk]; rfl
  rw [e3]
  simp [ghit, hk]
theorem put_ins {v : V} {k : V} (x : V) (hk : v.kind = 5 ∨ v.kind = 0) : putV v k x = mkP (ins cmp v.pairs k x) := by
 unfold putV putP mkP
 rw [if_pos hk, ← ins_eq cmp v0]
 rfl
def KeysOf (kd : Int) (v : V) : Prop := (v.kind = 5 ∨ v.kind = 0) ∧ Srt cmp (KP kd) v.pairs ∧ ∀ e ∈ v.pairs, okP e
theorem keys_of {v k : V} (hr : right v = true) (hk : v.kind = 5 ∨ v.kind = 0) (h : v.pairs = [] ∨ ∃ e, v.pairs.head? = some e ∧ e.1.kind = k.kind) : KeysOf k.kind v := by
 refine ⟨hk, ?_⟩
 rcases rightP_none (right_map hr hk).2 with e | ⟨kd, ⟨e, h1, h2⟩, h3, h4⟩
 ·rw [e]; exact ⟨⟨by simp, by simp⟩, by simp⟩
 ·rcases h with h | ⟨e', h5, h6⟩
  ·rw [h] at h1; cases h1
  ·rw [h1] at h5; cases h5
   rw [← h6, h2]; exact ⟨h3, h4⟩
theorem right_find {v k : V} (hr : right v = true) (hv : KeysOf k.kind v) (hk : KP k.kind k) : right (find v k) = true := by
 rw [find_look k hr hv.1]
 cases h : look cmp v.pairs k with
 | none => exact right_v0
 | some y =>
  have := hv.2.2 _ (look_mem (ordP _) hv.2.1 hk h)
  unfold okP partB at this
  simp only [Bool.and_eq_true] at this
  exact this.2
theorem keys_put {v k x : V} {kd : Int} (hv : KeysOf kd v) (hk : KP kd k) (hx : x.kind = 0 ∨ partB x = true) : KeysOf kd (putV v k x) := by
 rw [put_ins x hv.1]
 refine ⟨mkP_kind _, ?_⟩
 rw [mkP_pairs]
 refine ⟨srt_ins (ordP kd) x hv.2.1 hk, fun e he => ?_⟩
 rcases mem_ins (ordP kd) he with he | ⟨rfl, hx0⟩
 ·exact hv.2.2 e he
 ·exact hx.resolve_left hx0
theorem right_keys {v : V} {kd : Int} (hv : KeysOf kd v) (hm : v = mkP v.pairs) : right v = true := by
 rw [hm]; exact right_mkP (rightP_of hv.2.1 hv.2.2)
theorem right_put {v k x : V} {kd : Int} (hv : KeysOf kd v) (hk : KP kd k) (hx : x.kind = 0 ∨ partB x = true) : right (putV v k x) = true := by
 refine right_keys (keys_put hv hk hx) ?_
 rw [put_ins x hv.1, mkP_pairs]
theorem find_put {v k x : V} {kd : Int} (hv : KeysOf kd v) (hk : KP kd k) (hx : x.kind = 0 ∨ partB x = true) (hx2 : right x = true) : find (putV v k x) k = x := by
 rw [find_look k (right_put hv hk hx) (keys_put hv hk hx).1, put_ins x hv.1, mkP_pairs, look_ins_same (ordP kd) x hv.2.1 hk]
 exact opt_v0 hx2
theorem find_put_ne {v k m x : V} {kd : Int} (hr : right v = true) (hv : KeysOf kd v) (hk : KP kd k) (hm : KP kd m) (hx : x.kind = 0 ∨ partB x = true) (hne : m ≠ k) : find (putV v k x) m = find v m := by
 rw [find_look m (right_put hv hk hx) (keys_put hv hk hx).1, find_look m hr hv.1, put_ins x hv.1, mkP_pairs, look_ins_ne (ordP kd) x hv.2.1 hk hm hne]
theorem map_ext {v w : V} {kd : Int} (rv : right v = true) (rw_ : right w = true) (hv : KeysOf kd v) (hw : KeysOf kd w) (h : ∀ n, KP kd n → find v n = find w n) : v = w := by
 rw [(right_map rv hv.1).1, (right_map rw_ hw.1).1]
 rw [srt_ext (ordP kd) hv.2.1 hw.2.1 (fun n hn => ?_)]
 have := h n hn
 rw [find_look n rv hv.1, find_look n rw_ hw.1] at this
 have ne : ∀ {y : V}, partB y = true → y ≠ v0 := fun {y} hy e => by
  subst e; unfold partB v0 at hy; simp [V.kind] at hy
 cases e1 : look cmp v.pairs n with
 | none =>
  cases e2 : look cmp w.pairs n with
  | none => rfl
  | some z =>
   rw [e1, e2] at this
   exact absurd (show z = v0 from this.symm) (ne (hw.2.2 _ (look_mem (ordP kd) hw.2.1 hn e2)))
 | some y =>
  cases e2 : look cmp w.pairs n with
  | none =>
   rw [e1, e2] at this
   exact absurd (show y = v0 from this) (ne (hv.2.2 _ (look_mem (ordP kd) hv.2.1 hn e1)))
  | some z =>
   rw [e1, e2] at this
   have : y = z := this
   rw [this]
theorem mono_fields {v : V} {n : Int} (hr : right v = true) (hk : v.kind = 3) (hn : KI n) : MonoN (cF v.fields n) v.fields.length :=
 srt_mono ordI 0 (srt_fields hr hk).1 hn
theorem mono_pairs {v k : V} {kd : Int} (hv : KeysOf kd v) (hk : KP kd k) : MonoN (cP v.pairs k) v.pairs.length :=
 srt_mono (ordP kd) v0 hv.2.1 hk
inductive Res (α : Type) where
 | bad (n : Nat)
 | ok (x : α)
def setRest (v : V) (r : ByteArray) : V := .mk v.kind v.num v.text v.fields r v.list v.pairs
def headKind (v k : V) : Prop := ∃ e, v.pairs.head? = some e ∧ e.1.kind ≠ k.kind
instance (v k : V) : Decidable (headKind v k) := match h : v.pairs.head? with
 | none => isFalse (fun ⟨e, h2, _⟩ => by rw [h] at h2; cases h2)
 | some e => if h3 : e.1.kind ≠ k.kind then isTrue ⟨e, h, h3⟩ else isFalse (fun ⟨e', h2, h4⟩ => by rw [h] at h2; cases h2; exact h3 h4)
mutual
def ado : E → V → Res V
 | .mk k o n f r ro rn s ks, v =>
  if k = 1 then (if cmp o v = 0 then .ok n else .bad 13)
  else if k = 2 then (if v.kind = 3 then (match adoF f v with
   | .bad b => .bad b
   | .ok w => if r = true then (if w.rest = ro then .ok (setRest w rn) else .bad 13) else .ok w) else .bad 13)
  else if k = 3 then (if v.kind = 4 ∨ v.kind = 0 then (match adoS s v.list [] with
   | .bad b => .bad b
   | .ok (left, out) => if 0 < left.length then .bad 13 else .ok (mkL out)) else .bad 13)
  else if k = 4 then (if v.kind = 5 ∨ v.kind = 0 then adoK ks v else .bad 13)
  else .ok v
def adoF : List (Int × E) → V → Res V
 | [], v => .ok v
 | (n, e) :: r, v => match ado e (get v n) with
  | .bad b => .bad b
  | .ok x => adoF r (withV v n x)
def adoS : List (Int × Int × V × E) → List V → List V → Res (List V × List V)
 | [], l, o => .ok (l, o)
 | (k, c, v, e) :: r, l, o =>
  if k = 1 then (if (l.length : Int) < c then .bad 13 else adoS r (l.drop c.toNat) (o ++ l.take c.toNat))
  else if k = 2 then (match l with
   | [] => .bad 13
   | x :: l' => if cmp x v = 0 then adoS r l' o else .bad 13)
  else if k = 3 then adoS r l (o ++ [v])
  else (match l with
   | [] => .bad 13
   | x :: l' => match ado e x with
    | .bad b => .bad b
    | .ok y => if 1 ≤ y.kind ∧ y.kind ≤ 3 then adoS r l' (o ++ [y]) else .bad 12)
def adoK : List (V × E) → V → Res V
 | [], v => .ok v
 | (k, e) :: r, v => if headKind v k then .bad 13 else match ado e (find v k) with
  | .bad b => .bad b
  | .ok x => if x.kind ≠ 0 ∧ ¬ (1 ≤ x.kind ∧ x.kind ≤ 3) then .bad 12 else adoK r (putV v k x)
end
def stepB (k c : Int) (v : V) (e : E) : Prop := (k = 1 ∧ 1 ≤ c ∧ c ≤ 1048576) ∨ (k = 2 ∧ partB v = true) ∨ (k = 3 ∧ partB v = true) ∨ (k = 4 ∧ eright e = true)
theorem step_b {k c : Int} {v : V} {e : E} (h : stepRight k c v e = true) : stepB k c v e := by
 unfold stepRight at h
 unfold stepB
 split at h
 ·simp only [Bool.and_eq_true, decide_eq_true_eq] at h; exact .inl ⟨‹_›, h.1⟩
 ·split at h
  ·rename_i h2
   simp only [Bool.and_eq_true, decide_eq_true_eq] at h
   rcases h2 with h2 | h2
   ·exact .inr (.inl ⟨h2, h.2.1⟩)
   ·exact .inr (.inr (.inl ⟨h2, h.2.1⟩))
  ·split at h
   ·simp only [Bool.and_eq_true, decide_eq_true_eq, esome] at h; exact .inr (.inr (.inr ⟨‹_›, h.2.2.2⟩))
   ·cases h
theorem esteps_cons {last : Int} {ch : Bool} {k c : Int} {v : V} {e : E} {r : List (Int × Int × V × E)} : esteps last ch ((k, c, v, e) :: r) = (stepRight k c v e && !(decide (last = 1 ∧ k = 1)) && !(decide (last = 3 ∧ k = 2)) && esteps k (ch || decide (k ≠ 1)) r) := by
 rw [esteps]; rfl
def allF (f : List (Int × E)) : Prop := ∀ e ∈ f, KI e.1 ∧ eright e.2 = true
def allS (s : List (Int × Int × V × E)) : Prop := ∀ e ∈ s, stepB e.1 e.2.1 e.2.2.1 e.2.2.2
def allK (s : List (V × E)) : Prop := ∀ e ∈ s, KP e.1.kind e.1 ∧ eright e.2 = true
theorem efields_all : ∀ (f : List (Int × E)) (last : Int), 0 ≤ last → efields last f = true → allF f
 | [], _, _, _ => fun e he => by simp at he
 | (n, x) :: r, last, h0, h => by
  rw [efields] at h
  simp only [Bool.and_eq_true, decide_eq_true_eq] at h
  obtain ⟨⟨⟨h1, h2⟩, h3, h4⟩, h5⟩ := h
  intro e he
  rcases List.mem_cons.1 he with rfl | he
  ·exact ⟨⟨by show 1 ≤ n; omega, h2⟩, h4⟩
  ·exact efields_all r n (by omega) h5 e he
theorem esteps_all : ∀ (s : List (Int × Int × V × E)) (last : Int) (ch : Bool), esteps last ch s = true → allS s
 | [], _, _, _ => fun e he => by simp at he
 | (k, c, v, x) :: r, last, ch, h => by
  rw [esteps_cons] at h
  simp only [Bool.and_eq_true] at h
  intro e he
  rcases List.mem_cons.1 he with rfl | he
  ·exact step_b h.1.1.1
  ·exact esteps_all r k _ h.2 e he
theorem ekeys_all : ∀ (s : List (V × E)) (last : Option V), ekeys last s = true → allK s
 | [], _, _ => fun e he => by simp at he
 | (k, x) :: r, last, h => by
  rw [ekeys.eq_def] at h
  simp only [Bool.and_eq_true, decide_eq_true_eq] at h
  intro e he
  rcases List.mem_cons.1 he with rfl | he
  ·exact ⟨⟨rfl, h.1.1.1.1, h.1.1.1.2⟩, h.1.1.2.2⟩
  ·exact ekeys_all r _ h.2 e he
theorem eright_parts {k : Int} {o n : V} {f : List (Int × E)} {r : Bool} {ro rn : ByteArray} {s : List (Int × Int × V × E)} {ks : List (V × E)} (h : eright (.mk k o n f r ro rn s ks) = true) :
  bareE k o n f.length r ro rn s.length ks.length = true ∧ (k = 0 ∨ (k = 1 ∧ right o = true ∧ right n = true ∧ cmp o n ≠ 0) ∨ (k = 2 ∧ allF f) ∨ (k = 3 ∧ allS s) ∨ (k = 4 ∧ allK ks)) := by
 rw [eright, Bool.and_eq_true] at h
 refine ⟨h.1, ?_⟩
 have h := h.2
 split at h
 ·exact .inl ‹_›
 ·split at h
  ·simp only [Bool.and_eq_true, Bool.not_eq_true', decide_eq_false_iff_not] at h; exact .inr (.inl ⟨‹_›, h⟩)
  ·split at h
   ·simp only [Bool.and_eq_true] at h; exact .inr (.inr (.inl ⟨‹_›, efields_all f 0 (by omega) h.1⟩))
   ·split at h
    ·exact .inr (.inr (.inr (.inl ⟨‹_›, esteps_all s 0 false h⟩)))
    ·split at h
     ·simp only [Bool.and_eq_true] at h; exact .inr (.inr (.inr (.inr ⟨‹_›, ekeys_all ks none h.2⟩)))
     ·cases h
theorem part_right {v : V} (h : partB v = true) : right v = true := by unfold partB at h; simp only [Bool.and_eq_true] at h; exact h.2
theorem part_of {v : V} (h : 1 ≤ v.kind ∧ v.kind ≤ 3) (hr : right v = true) : partB v = true := by unfold partB; simp [h, hr]
theorem rightL_mem {l : List V} : rightL l = true ↔ ∀ v ∈ l, partB v = true := by rw [rightL_all, List.all_eq_true]
theorem right_setRest {v : V} (r : ByteArray) (h : right v = true) (hk : v.kind = 3) : right (setRest v r) = true := by
 have e := right_msg h hk
 have e2 : setRest v r = mkM v.fields r := by
  rw [e.1]; rfl
 rw [e2, right_mkM]; exact e.2
theorem kinds_of {v k : V} (hr : right v = true) (hk : v.kind = 5 ∨ v.kind = 0) (h : ¬ headKind v k) : KeysOf k.kind v := by
 refine keys_of hr hk ?_
 cases hv : v.pairs with
 | nil => exact .inl rfl
 | cons e r =>
  right
  refine ⟨e, rfl, ?_⟩
  by_cases h2 : e.1.kind = k.kind
  ·exact h2
  ·exact absurd ⟨e, by rw [hv]; rfl, h2⟩ h
mutual
theorem ado_right : ∀ (e : E) (v x : V), eright e = true → right v = true → ado e v = .ok x → right x = true
 | .mk k o n f r ro rn s ks, v, x, he, hv, h => by
  obtain ⟨_, he⟩ := eright_parts he
  rw [ado] at h
  rcases he with rfl | ⟨rfl, h1, h2, h3⟩ | ⟨rfl, h1⟩ | ⟨rfl, h1⟩ | ⟨rfl, h1⟩
  ·simp at h; subst h; exact hv
  ·simp at h
   split at h
   ·cases h; exact h2
   ·cases h
  ·simp at h
   split at h
   case isFalse => cases h
   case isTrue hk =>
   cases hF : adoF f v with
   | bad b => rw [hF] at h; cases h
   | ok w =>
    rw [hF] at h
    obtain ⟨hw, kw⟩ := adoF_right f v w h1 hv hk hF
    simp only at h
    split at h
    ·split at h
     ·cases h; exact right_setRest rn hw kw
     ·cases h
    ·cases h; exact hw
  ·simp at h
   split at h
   case isFalse => cases h
   case isTrue hk =>
   cases hS : adoS s v.list [] with
   | bad b => rw [hS] at h; cases h
   | ok p =>
    obtain ⟨left, out⟩ := p
    rw [hS] at h
    have := adoS_right s v.list [] left out h1 (rightL_mem.1 (right_list hv hk).2) (by simp) hS
    simp only at h
    split at h
    ·cases h
    ·cases h; exact right_mkL (rightL_mem.2 this.2)
  ·simp at h
   split at h
   case isFalse => cases h
   case isTrue hk =>
   exact (adoK_right ks v x h1 hv hk h).1
theorem adoF_right : ∀ (f : List (Int × E)) (v x : V), allF f → right v = true → v.kind = 3 → adoF f v = .ok x → right x = true ∧ x.kind = 3
 | [], v, x, _, hv, hk, h => by rw [adoF] at h; cases h; exact ⟨hv, hk⟩
 | (n, e) :: r, v, x, ha, hv, hk, h => by
  rw [adoF] at h
  have h1 := ha (n, e) (by simp)
  cases hE : ado e (get v n) with
  | bad b => rw [hE] at h; cases h
  | ok y =>
   rw [hE] at h
   have hy := ado_right e (get v n) y h1.2 (right_get hv hk h1.1) hE
   exact adoF_right r (withV v n y) x (fun e he => ha e (by simp [he])) (right_with hv hk h1.1 hy) (kind_with hk) h
theorem adoS_right : ∀ (s : List (Int × Int × V × E)) (l o l' o' : List V), allS s → (∀ v ∈ l, partB v = true) → (∀ v ∈ o, partB v = true) → adoS s l o = .ok (l', o') → (∀ v ∈ l', partB v = true) ∧ ∀ v ∈ o', partB v = true
 | [], l, o, l', o', _, hl, ho, h => by rw [adoS] at h; cases h; exact ⟨hl, ho⟩
 | (k, c, v, e) :: r, l, o, l', o', ha, hl, ho, h => by
  have hr : allS r := fun e he => ha e (by simp [he])
  have h1 : stepB k c v e := ha (k, c, v, e) (by simp)
  rw [adoS.eq_def] at h
  rcases h1 with ⟨rfl, h1, h2⟩ | ⟨rfl, h1⟩ | ⟨rfl, h1⟩ | ⟨rfl, h1⟩
  ·simp at h
   split at h
   ·cases h
   ·refine adoS_right r _ _ l' o' hr (fun v hv => hl v (List.mem_of_mem_drop hv)) (fun v hv => ?_) h
    rcases List.mem_append.1 hv with hv | hv
    ·exact ho v hv
    ·exact hl v (List.mem_of_mem_take hv)
  ·simp at h
   cases l with
   | nil => cases h
   | cons x t =>
    simp only at h
    split at h
    ·exact adoS_right r t o l' o' hr (fun v hv => hl v (by simp [hv])) ho h
    ·cases h
  ·simp at h
   refine adoS_right r l _ l' o' hr hl (fun u hu => ?_) h
   rcases List.mem_append.1 hu with hu | hu
   ·exact ho u hu
   ·obtain rfl : u = v := by simpa using hu
    exact h1
  ·simp at h
   cases l with
   | nil => cases h
   | cons x t =>
    simp only at h
    cases hE : ado e x with
    | bad b => rw [hE] at h; cases h
    | ok y =>
     rw [hE] at h
     have hy := ado_right e x y h1 (part_right (hl x (by simp))) hE
     simp only at h
     split at h
     ·rename_i hk
      refine adoS_right r t _ l' o' hr (fun v hv => hl v (by simp [hv])) (fun u hu => ?_) h
      rcases List.mem_append.1 hu with hu | hu
      ·exact ho u hu
      ·obtain rfl : u = y := by simpa using hu
       exact part_of hk hy
     ·cases h
theorem adoK_right : ∀ (f : List (V × E)) (v x : V), allK f → right v = true → (v.kind = 5 ∨ v.kind = 0) → adoK f v = .ok x → right x = true ∧ (x.kind = 5 ∨ x.kind = 0)
 | [], v, x, _, hv, hk, h => by rw [adoK] at h; cases h; exact ⟨hv, hk⟩
 | (k, e) :: r, v, x, ha, hv, hk, h => by
  rw [adoK] at h
  have h1 := ha (k, e) (by simp)
  split at h
  case isTrue => cases h
  case isFalse hh =>
  have hO := kinds_of hv hk hh
  cases hE : ado e (find v k) with
  | bad b => rw [hE] at h; cases h
  | ok y =>
   rw [hE] at h
   have hy := ado_right e (find v k) y h1.2 (right_find hv hO h1.1) hE
   simp only at h
   split at h
   ·cases h
   ·rename_i hk2
    have hy2 : y.kind = 0 ∨ partB y = true := by
     by_cases h0 : y.kind = 0
     ·exact .inl h0
     ·refine .inr (part_of ?_ hy)
      by_cases h3 : 1 ≤ y.kind ∧ y.kind ≤ 3
      ·exact h3
      ·exact absurd ⟨h0, h3⟩ hk2
    exact adoK_right r (putV v k y) x (fun e he => ha e (by simp [he])) (right_put hO h1.1 hy2) (keys_put hO h1.1 hy2).1 h
end
mutual
theorem ado_inj : ∀ (e : E) (v w x : V), eright e = true → right v = true → right w = true → ado e v = .ok x → ado e w = .ok x → v = w
 | .mk k o n f r ro rn s ks, v, w, x, he, hv, hw, h, h' => by
  obtain ⟨_, he⟩ := eright_parts he
  rw [ado] at h h'
  rcases he with rfl | ⟨rfl, h1, h2, h3⟩ | ⟨rfl, h1⟩ | ⟨rfl, h1⟩ | ⟨rfl, h1⟩
  ·simp at h h'; rw [h, h']
  ·simp at h h'
   split at h
   case isFalse => cases h
   split at h'
   case isFalse => cases h'
   rename_i e1 e2
   rw [← cmp_eq o v h1 hv e1, ← cmp_eq o w h1 hw e2]
  ·simp at h h'
   split at h
   case isFalse => cases h
   split at h'
   case isFalse => cases h'
   rename_i kv kw
   cases hF : adoF f v with
   | bad b => rw [hF] at h; cases h
   | ok a =>
   cases hG : adoF f w with
   | bad b => rw [hG] at h'; cases h'
   | ok b =>
    rw [hF] at h
    rw [hG] at h'
    obtain ⟨ra, ka⟩ := adoF_right f v a h1 hv kv hF
    obtain ⟨rb, kb⟩ := adoF_right f w b h1 hw kw hG
    simp only at h h'
    have : a = b := by
     split at h
     ·split at h'
      case isFalse => simp_all
      split at h
      case isFalse => cases h
      split at h'
      case isFalse => cases h'
      rename_i q1 q2
      cases h
      injection h' with h'
      rw [(right_msg ra ka).1, (right_msg rb kb).1, q1, q2]
      have : a.fields = b.fields := by
       have := congrArg V.fields h'
       exact this.symm
      rw [this]
     ·split at h'
      case isTrue => simp_all
      cases h; cases h'; rfl
    subst this
    exact adoF_inj f v w a h1 hv hw kv kw hF hG
  ·simp at h h'
   split at h
   case isFalse => cases h
   split at h'
   case isFalse => cases h'
   rename_i kv kw
   cases hS : adoS s v.list [] with
   | bad b => rw [hS] at h; cases h
   | ok p =>
   cases hT : adoS s w.list [] with
   | bad b => rw [hT] at h'; cases h'
   | ok q =>
    obtain ⟨l1, o1⟩ := p
    obtain ⟨l2, o2⟩ := q
    rw [hS] at h
    rw [hT] at h'
    simp only at h h'
    split at h
    case isTrue => cases h
    split at h'
    case isTrue => cases h'
    rename_i e1 e2
    have e3 : mkL o1 = mkL o2 := by injection h with h; injection h' with h'; rw [h, h']
    have e4 : o1 = o2 := by rw [← mkL_list o1, ← mkL_list o2, e3]
    have e5 : l1 = [] := List.eq_nil_of_length_eq_zero (by omega)
    have e6 : l2 = [] := List.eq_nil_of_length_eq_zero (by omega)
    subst e4 e5 e6
    have hl := right_list hv kv
    have hm := right_list hw kw
    rw [hl.1, hm.1, (adoS_inj s v.list w.list [] [] [] o1 h1 (rightL_mem.1 hl.2) (rightL_mem.1 hm.2) rfl hS hT).1]
  ·simp at h h'
   split at h
   case isFalse => cases h
   split at h'
   case isFalse => cases h'
   rename_i kv kw
   exact adoK_inj ks v w x h1 hv hw kv kw h h'
theorem adoF_inj : ∀ (f : List (Int × E)) (v w x : V), allF f → right v = true → right w = true → v.kind = 3 → w.kind = 3 → adoF f v = .ok x → adoF f w = .ok x → v = w
 | [], v, w, x, _, _, _, _, _, h, h' => by rw [adoF] at h h'; cases h; cases h'; rfl
 | (n, e) :: r, v, w, x, ha, hv, hw, kv, kw, h, h' => by
  rw [adoF] at h h'
  have h1 := ha (n, e) (by simp)
  cases hE : ado e (get v n) with
  | bad b => rw [hE] at h; cases h
  | ok y =>
  cases hG : ado e (get w n) with
  | bad b => rw [hG] at h'; cases h'
  | ok z =>
   rw [hE] at h
   rw [hG] at h'
   simp only at h h'
   have hy := ado_right e _ y h1.2 (right_get hv kv h1.1) hE
   have hz := ado_right e _ z h1.2 (right_get hw kw h1.1) hG
   have ih := adoF_inj r (withV v n y) (withV w n z) x (fun e he => ha e (by simp [he])) (right_with hv kv h1.1 hy) (right_with hw kw h1.1 hz) (kind_with kv) (kind_with kw) h h'
   have yz : y = z := by rw [← get_with hv kv h1.1 hy, ← get_with hw kw h1.1 hz, ih]
   subst yz
   have e0 := ado_inj e (get v n) (get w n) y h1.2 (right_get hv kv h1.1) (right_get hw kw h1.1) hE hG
   refine msg_ext hv hw kv kw ?_ (fun m hm => ?_)
   ·rw [← rest_with (v := v) (n := n) (x := y), ih, rest_with]
   ·by_cases hne : m = n
    ·subst hne; exact e0
    ·rw [← get_with_ne hv kv h1.1 hm hne (x := y), ih, get_with_ne hw kw h1.1 hm hne]
theorem adoS_inj : ∀ (s : List (Int × Int × V × E)) (l m o p l' o' : List V), allS s → (∀ v ∈ l, partB v = true) → (∀ v ∈ m, partB v = true) → o.length = p.length → adoS s l o = .ok (l', o') → adoS s m p = .ok (l', o') → l = m ∧ o = p
 | [], l, m, o, p, l', o', _, _, _, _, h, h' => by rw [adoS] at h h'; cases h; cases h'; exact ⟨rfl, rfl⟩
 | (k, c, v, e) :: r, l, m, o, p, l', o', ha, hl, hm, hlen, h, h' => by
  have hr : allS r := fun e he => ha e (by simp [he])
  have h1 : stepB k c v e := ha (k, c, v, e) (by simp)
  rw [adoS.eq_def] at h h'
  rcases h1 with ⟨rfl, h1, h2⟩ | ⟨rfl, h1⟩ | ⟨rfl, h1⟩ | ⟨rfl, h1⟩
  ·simp at h h'
   split at h
   ·cases h
   split at h'
   ·cases h'
   rename_i q1 q2
   have len : (o ++ l.take c.toNat).length = (p ++ m.take c.toNat).length := by
    simp only [List.length_append, List.length_take]; omega
   obtain ⟨e1, e2⟩ := adoS_inj r _ _ _ _ l' o' hr (fun v hv => hl v (List.mem_of_mem_drop hv)) (fun v hv => hm v (List.mem_of_mem_drop hv)) len h h'
   obtain ⟨e3, e4⟩ := List.append_inj e2 hlen
   exact ⟨by rw [← List.take_append_drop c.toNat l, ← List.take_append_drop c.toNat m, e1, e4], e3⟩
  ·simp at h h'
   cases l with
   | nil => cases h
   | cons x t =>
   cases m with
   | nil => cases h'
   | cons y u =>
    simp only at h h'
    split at h
    case isFalse => cases h
    split at h'
    case isFalse => cases h'
    rename_i q1 q2
    obtain ⟨e1, e2⟩ := adoS_inj r t u o p l' o' hr (fun v hv => hl v (by simp [hv])) (fun v hv => hm v (by simp [hv])) hlen h h'
    have e3 := cmp_eq x v (part_right (hl x (by simp))) (part_right h1) q1
    have e4 := cmp_eq y v (part_right (hm y (by simp))) (part_right h1) q2
    exact ⟨by rw [e1, e3, e4], e2⟩
  ·simp at h h'
   obtain ⟨e1, e2⟩ := adoS_inj r l m (o ++ [v]) (p ++ [v]) l' o' hr hl hm (by simp [hlen]) h h'
   exact ⟨e1, (List.append_inj e2 hlen).1⟩
  ·simp at h h'
   cases l with
   | nil => cases h
   | cons x t =>
   cases m with
   | nil => cases h'
   | cons y u =>
    simp only at h h'
    cases hE : ado e x with
    | bad b => rw [hE] at h; cases h
    | ok a =>
    cases hG : ado e y with
    | bad b => rw [hG] at h'; cases h'
    | ok b =>
     rw [hE] at h
     rw [hG] at h'
     simp only at h h'
     split at h
     case isFalse => cases h
     split at h'
     case isFalse => cases h'
     obtain ⟨e1, e2⟩ := adoS_inj r t u (o ++ [a]) (p ++ [b]) l' o' hr (fun v hv => hl v (by simp [hv])) (fun v hv => hm v (by simp [hv])) (by simp [hlen]) h h'
     obtain ⟨e3, e4⟩ := List.append_inj e2 hlen
     have e5 : a = b := by simpa using e4
     subst e5
     exact ⟨by rw [e1, ado_inj e x y a h1 (part_right (hl x (by simp))) (part_right (hm y (by simp))) hE hG], e3⟩
theorem adoK_inj : ∀ (f : List (V × E)) (v w x : V), allK f → right v = true → right w = true → (v.kind = 5 ∨ v.kind = 0) → (w.kind = 5 ∨ w.kind = 0) → adoK f v = .ok x → adoK f w = .ok x → v = w
 | [], v, w, x, _, _, _, _, _, h, h' => by rw [adoK] at h h'; cases h; cases h'; rfl
 | (k, e) :: r, v, w, x, ha, hv, hw, kv, kw, h, h' => by
  rw [adoK] at h h'
  have h1 := ha (k, e) (by simp)
  split at h
  case isTrue => cases h
  split at h'
  case isTrue => cases h'
  rename_i hh1 hh2
  have hO := kinds_of hv kv hh1
  have hO' := kinds_of hw kw hh2
  cases hE : ado e (find v k) with
  | bad b => rw [hE] at h; cases h
  | ok y =>
  cases hG : ado e (find w k) with
  | bad b => rw [hG] at h'; cases h'
  | ok z =>
   rw [hE] at h
   rw [hG] at h'
   simp only at h h'
   have hy := ado_right e _ y h1.2 (right_find hv hO h1.1) hE
   have hz := ado_right e _ z h1.2 (right_find hw hO' h1.1) hG
   split at h
   case isTrue => cases h
   split at h'
   case isTrue => cases h'
   rename_i hk1 hk2
   have part : ∀ {y : V}, right y = true → ¬ (y.kind ≠ 0 ∧ ¬ (1 ≤ y.kind ∧ y.kind ≤ 3)) → y.kind = 0 ∨ partB y = true := fun {y} hy hk => by
    by_cases h0 : y.kind = 0
    ·exact .inl h0
    ·refine .inr (part_of ?_ hy)
     by_cases h3 : 1 ≤ y.kind ∧ y.kind ≤ 3
     ·exact h3
     ·exact absurd ⟨h0, h3⟩ hk
   have py := part hy hk1
   have pz := part hz hk2
   have ih := adoK_inj r (putV v k y) (putV w k z) x (fun e he => ha e (by simp [he])) (right_put hO h1.1 py) (right_put hO' h1.1 pz) (keys_put hO h1.1 py).1 (keys_put hO' h1.1 pz).1 h h'
   have yz : y = z := by rw [← find_put hO h1.1 py hy, ← find_put hO' h1.1 pz hz, ih]
   subst yz
   have e0 := ado_inj e (find v k) (find w k) y h1.2 (right_find hv hO h1.1) (right_find hw hO' h1.1) hE hG
   refine map_ext hv hw hO hO' (fun m hm => ?_)
   by_cases hne : m = k
   ·subst hne; exact e0
   ·rw [← find_put_ne hv hO h1.1 hm py hne, ih, find_put_ne hw hO' h1.1 hm pz hne]
end
mutual
def vmx : V → Nat
 | .mk _ _ _ f _ l p => max (max f.length (vmxF f)) (max (max l.length (vmxL l)) (max p.length (vmxP p)))
def vmxF : List (Int × V) → Nat
 | [] => 0
 | (_, v) :: r => max (vmx v) (vmxF r)
def vmxL : List V → Nat
 | [] => 0
 | v :: r => max (vmx v) (vmxL r)
def vmxP : List (V × V) → Nat
 | [] => 0
 | (k, v) :: r => max (max (vmx k) (vmx v)) (vmxP r)
end
mutual
def esz : E → Nat
 | .mk _ o n f _ _ _ s k => vmx o + vmx n + eszF f + eszS s + eszK k
def eszF : List (Int × E) → Nat
 | [] => 0
 | (_, e) :: r => 1 + esz e + eszF r
def eszS : List (Int × Int × V × E) → Nat
 | [] => 0
 | (_, _, v, e) :: r => 1 + vmx v + esz e + eszS r
def eszK : List (V × E) → Nat
 | [] => 0
 | (k, e) :: r => 1 + vmx k + esz e + eszK r
end
theorem vmxF_mem : ∀ {l : List (Int × V)} {e : Int × V}, e ∈ l → vmx e.2 ≤ vmxF l
 | (n, v) :: r, e, h => by
  rw [vmxF]
  rcases List.mem_cons.1 h with rfl | h
  ·exact Nat.le_max_left _ _
  ·have := vmxF_mem h; omega
theorem vmxL_mem : ∀ {l : List V} {e : V}, e ∈ l → vmx e ≤ vmxL l
 | v :: r, e, h => by
  rw [vmxL]
  rcases List.mem_cons.1 h with rfl | h
  ·exact Nat.le_max_left _ _
  ·have := vmxL_mem h; omega
theorem vmxP_mem : ∀ {l : List (V × V)} {e : V × V}, e ∈ l → vmx e.1 ≤ vmxP l ∧ vmx e.2 ≤ vmxP l
 | (n, v) :: r, e, h => by
  rw [vmxP]
  rcases List.mem_cons.1 h with rfl | h
  ·constructor <;> simp only <;> omega
  ·have := vmxP_mem h; omega
theorem vmxF_le : ∀ {l : List (Int × V)} {B : Nat}, (∀ e ∈ l, vmx e.2 ≤ B) → vmxF l ≤ B
 | [], _, _ => by rw [vmxF]; omega
 | (n, v) :: r, B, h => by
  rw [vmxF]
  have h1 := h (n, v) (by simp)
  have h2 := vmxF_le (l := r) (fun e he => h e (by simp [he]))
  simp only at h1; omega
theorem vmxL_le : ∀ {l : List V} {B : Nat}, (∀ e ∈ l, vmx e ≤ B) → vmxL l ≤ B
 | [], _, _ => by rw [vmxL]; omega
 | v :: r, B, h => by
  rw [vmxL]
  have h1 := h v (by simp)
  have h2 := vmxL_le (l := r) (fun e he => h e (by simp [he]))
  omega
theorem vmxP_le : ∀ {l : List (V × V)} {B : Nat}, (∀ e ∈ l, vmx e.1 ≤ B ∧ vmx e.2 ≤ B) → vmxP l ≤ B
 | [], _, _ => by rw [vmxP]; omega
 | (n, v) :: r, B, h => by
  rw [vmxP]
  have h1 := h (n, v) (by simp)
  have h2 := vmxP_le (l := r) (fun e he => h e (by simp [he]))
  simp only at h1; omega
theorem vmx_parts (v : V) : v.fields.length ≤ vmx v ∧ vmxF v.fields ≤ vmx v ∧ v.list.length ≤ vmx v ∧ vmxL v.list ≤ vmx v ∧ v.pairs.length ≤ vmx v ∧ vmxP v.pairs ≤ vmx v := by
 cases v
 rw [vmx]
 simp only [V.fields, V.list, V.pairs]
 omega
theorem vmx_v0 : vmx v0 = 0 := by unfold v0; rw [vmx]; simp [vmxF, vmxL, vmxP]
theorem get_vmx (v : V) (n : Int) : vmx (get v n) ≤ vmx v := by
 unfold get
 split
 ·rename_i h
  have h2 := h.2
  unfold hitF at h2
  simp only [Bool.and_eq_true, decide_eq_true_eq] at h2
  have e : v.fields.getD (posF v.fields n) (0, v0) = v.fields[posF v.fields n]'h2.1 := by simp [List.getD_eq_getElem?_getD, List.getElem?_eq_getElem h2.1]
  rw [e]
  have := vmxF_mem (List.getElem_mem h2.1)
  have := vmx_parts v; omega
 ·rw [vmx_v0]; omega
theorem find_vmx (v k : V) : vmx (find v k) ≤ vmx v := by
 unfold find
 split
 ·rename_i h
  have h2 := h.2
  unfold hitP at h2
  simp only [Bool.and_eq_true, decide_eq_true_eq] at h2
  have e : v.pairs.getD (posP v.pairs k) (v0, v0) = v.pairs[posP v.pairs k]'h2.1 := by simp [List.getD_eq_getElem?_getD, List.getElem?_eq_getElem h2.1]
  rw [e]
  have := (vmxP_mem (List.getElem_mem h2.1)).2
  have := vmx_parts v; omega
 ·rw [vmx_v0]; omega
theorem spl_mem {α : Type} {l : List α} {a m : Nat} {b : Bool} {x e : α} (h : e ∈ spl l a m b x) : e ∈ l ∨ e = x := by
 unfold spl at h
 rcases List.mem_append.1 h with h | h
 ·exact .inl (List.mem_of_mem_take h)
 ·rcases List.mem_append.1 h with h | h
  ·split at h
   ·exact .inr (by simpa using h)
   ·simp at h
  ·exact .inl (List.mem_of_mem_drop h)
theorem spl_len {α : Type} (l : List α) (a m : Nat) (b : Bool) (x : α) : (spl l a m b x).length ≤ l.length + 1 := by
 unfold spl
 simp only [List.length_append, List.length_take, List.length_drop]
 cases b <;> simp <;> omega
theorem with_vmx (v : V) (n : Int) (x : V) : vmx (withV v n x) ≤ max (vmx v + 1) (vmx x) := by
 unfold withV
 split
 ·have hp := vmx_parts v
  have h1 := spl_len v.fields (posF v.fields n) (one (hitF v.fields n)) (decide (x.kind ≠ 0)) (n, x)
  have h2 : vmxF (spl v.fields (posF v.fields n) (one (hitF v.fields n)) (decide (x.kind ≠ 0)) (n, x)) ≤ max (vmx v) (vmx x) := vmxF_le (fun e he => by
   rcases spl_mem he with he | rfl
   ·have := vmxF_mem he; omega
   ·exact Nat.le_max_right _ _)
  rw [vmx]
  omega
 ·omega
theorem put_vmx (v k x : V) : vmx (putV v k x) ≤ max (vmx v + 1) (max (vmx k) (vmx x)) := by
 unfold putV
 split
 ·split
  ·rw [vmx_v0]; omega
  ·have hp := vmx_parts v
   have h1 := spl_len v.pairs (posP v.pairs k) (one (hitP v.pairs k)) (decide (x.kind ≠ 0)) (k, x)
   have h2 : vmxP (putP v k x) ≤ max (vmx v) (max (vmx k) (vmx x)) := vmxP_le (fun e he => by
    unfold putP at he
    rcases spl_mem he with he | rfl
    ·have := vmxP_mem he; omega
    ·constructor <;> simp only <;> omega)
   have h3 : (putP v k x).length ≤ v.pairs.length + 1 := h1
   rw [vmx]
   simp only [vmxF, vmxL, List.length_nil]
   omega
 ·omega
theorem mkL_vmx (l : List V) : vmx (mkL l) ≤ max l.length (vmxL l) := by
 unfold mkL
 split
 ·rw [vmx_v0]; omega
 ·rw [vmx]; simp only [vmxF, vmxP, List.length_nil]; omega
mutual
theorem ado_vmx : ∀ (e : E) (v x : V), ado e v = .ok x → vmx x ≤ vmx v + esz e
 | .mk k o n f r ro rn s ks, v, x, h => by
  rw [ado] at h
  rw [esz]
  split at h
  ·split at h
   ·cases h; omega
   ·cases h
  ·split at h
   ·split at h
    case isFalse => cases h
    cases hF : adoF f v with
    | bad b => rw [hF] at h; cases h
    | ok w =>
     rw [hF] at h
     have := adoF_vmx f v w hF
     simp only at h
     split at h
     ·split at h
      ·cases h
       have e : vmx (setRest w rn) = vmx w := by cases w; unfold setRest; rw [vmx, vmx]; rfl
       rw [e]; omega
      ·cases h
     ·cases h; omega
   ·split at h
    ·split at h
     case isFalse => cases h
     cases hS : adoS s v.list [] with
     | bad b => rw [hS] at h; cases h
     | ok p =>
      obtain ⟨left, out⟩ := p
      rw [hS] at h
      have h1 := adoS_vmx s v.list [] left out (vmx v) hS (vmx_parts v).2.2.2.1 (by rw [vmxL]; omega)
      simp only at h
      split at h
      ·cases h
      ·cases h
       have := mkL_vmx out
       have := vmx_parts v
       simp only [List.length_nil] at h1
       omega
    ·split at h
     ·split at h
      case isFalse => cases h
      have := adoK_vmx ks v x h
      omega
     ·cases h; omega
theorem adoF_vmx : ∀ (f : List (Int × E)) (v x : V), adoF f v = .ok x → vmx x ≤ vmx v + eszF f
 | [], v, x, h => by rw [adoF] at h; cases h; rw [eszF]; omega
 | (n, e) :: r, v, x, h => by
  rw [adoF] at h
  rw [eszF]
  cases hE : ado e (get v n) with
  | bad b => rw [hE] at h; cases h
  | ok y =>
   rw [hE] at h
   have h1 := ado_vmx e (get v n) y hE
   have h2 := get_vmx v n
   have h3 := with_vmx v n y
   have h4 := adoF_vmx r (withV v n y) x h
   omega
theorem adoS_vmx : ∀ (s : List (Int × Int × V × E)) (l o l' o' : List V) (B : Nat), adoS s l o = .ok (l', o') → vmxL l ≤ B → vmxL o ≤ B → o'.length ≤ o.length + l.length + eszS s ∧ vmxL o' ≤ B + eszS s
 | [], l, o, l', o', B, h, hl, ho => by rw [adoS] at h; cases h; rw [eszS]; omega
 | (k, c, v, e) :: r, l, o, l', o', B, h, hl, ho => by
  rw [adoS.eq_def] at h
  rw [eszS]
  simp only at h
  have app : ∀ (a b : List V) (C : Nat), vmxL a ≤ C → vmxL b ≤ C → vmxL (a ++ b) ≤ C := fun a b C ha hb => vmxL_le (fun e he => by
   rcases List.mem_append.1 he with he | he
   ·have := vmxL_mem he; omega
   ·have := vmxL_mem he; omega)
  split at h
  ·split at h
   ·cases h
   ·have h1 := adoS_vmx r _ _ l' o' B h (vmxL_le (fun e he => by have := vmxL_mem (List.mem_of_mem_drop he); omega)) (app _ _ _ ho (vmxL_le (fun e he => by have := vmxL_mem (List.mem_of_mem_take he); omega)))
    simp only [List.length_append, List.length_take, List.length_drop] at h1
    omega
  ·split at h
   ·cases l with
    | nil => cases h
    | cons x t =>
     simp only at h
     rw [vmxL] at hl
     split at h
     ·have h1 := adoS_vmx r t o l' o' B h (by omega) ho
      simp only [List.length_cons]
      omega
     ·cases h
   ·split at h
    ·have h1 := adoS_vmx r l (o ++ [v]) l' o' (B + vmx v) h (by omega) (app _ _ _ (by omega) (by rw [vmxL, vmxL]; omega))
     simp only [List.length_append, List.length_singleton] at h1
     omega
    ·cases l with
     | nil => cases h
     | cons x t =>
      simp only at h
      rw [vmxL] at hl
      cases hE : ado e x with
      | bad b => rw [hE] at h; cases h
      | ok y =>
       rw [hE] at h
       have h0 := ado_vmx e x y hE
       simp only at h
       split at h
       ·have h1 := adoS_vmx r t (o ++ [y]) l' o' (B + esz e) h (by omega) (app _ _ _ (by omega) (by rw [vmxL, vmxL]; omega))
        simp only [List.length_append, List.length_singleton] at h1
        simp only [List.length_cons]
        omega
       ·cases h
theorem adoK_vmx : ∀ (f : List (V × E)) (v x : V), adoK f v = .ok x → vmx x ≤ vmx v + eszK f
 | [], v, x, h => by rw [adoK] at h; cases h; rw [eszK]; omega
 | (k, e) :: r, v, x, h => by
  rw [adoK] at h
  rw [eszK]
  split at h
  ·cases h
  ·cases hE : ado e (find v k) with
   | bad b => rw [hE] at h; cases h
   | ok y =>
    rw [hE] at h
    have h1 := ado_vmx e (find v k) y hE
    have h2 := find_vmx v k
    have h3 := put_vmx v k y
    simp only at h
    split at h
    ·cases h
    ·have h4 := adoK_vmx r (putV v k y) x h
     omega
end
end Go.Proofs.YtlmbcoecipbblaaGreatDoor.Val
namespace Go.Proofs.YtlmbcoecipbblaaGreatDoor
open Go.RowKit
open Val (V E vmx vmxF vmxL vmxP esz eszF eszS eszK)
theorem aggs1 {N : Nm} {h : Frag} {n : Nat} {c : List DV} (hl : c.length = n) {vs : List Value} (hp : PVRs N h [.agg (cellsP n c)] vs) : ∃ ws, vs = [.agg ws.toArray] ∧ DRs h c ws := by
 rw [PVRs] at hp
 obtain ⟨v, vs, rfl, h1, h2⟩ := hp
 rw [PVRs] at h2; subst h2
 obtain ⟨ws, rfl, h3⟩ := (cellsP_ok hl).1 h1
 exact ⟨ws, rfl, h3⟩
theorem aggs2 {N : Nm} {h : Frag} {n m : Nat} {c d : List DV} (hl : c.length = n) (hm : d.length = m) {vs : List Value} (hp : PVRs N h [.agg (cellsP n c), .agg (cellsP m d)] vs) : ∃ ws us, vs = [.agg ws.toArray, .agg us.toArray] ∧ DRs h c ws ∧ DRs h d us := by
 rw [PVRs] at hp
 obtain ⟨v, vs, rfl, h1, h2⟩ := hp
 obtain ⟨ws, rfl, h3⟩ := (cellsP_ok hl).1 h1
 obtain ⟨us, rfl, h4⟩ := aggs1 hm h2
 exact ⟨ws, us, rfl, h3, h4⟩
def zVd : List DV := [.lit (.int .i64 0), .lit (.int .u64 0), .lit (.string ⟨#[]⟩), .lit (.slice none 0 0), .lit (.string ⟨#[]⟩), .lit (.slice none 0 0), .lit (.slice none 0 0)]
def zEd : List DV := .lit (.int .i64 0) :: (zVd ++ (zVd ++ [.lit (.slice none 0 0), .lit (.bool false), .lit (.string ⟨#[]⟩), .lit (.string ⟨#[]⟩), .lit (.slice none 0 0), .lit (.slice none 0 0)]))
theorem cV (x : V) : cellAt (encV x) 0 = .lit (.int .i64 x.kind) ∧ cellAt (encV x) 1 = .lit (.int .u64 x.num) ∧ cellAt (encV x) 2 = .lit (.string x.text) ∧ cellAt (encV x) 3 = .sl (encF x.fields) ∧ cellAt (encV x) 4 = .lit (.string x.rest) ∧ cellAt (encV x) 5 = .sl (encL x.list) ∧ cellAt (encV x) 6 = .sl (encP x.pairs) := by cases x; rw [encV]; exact ⟨rfl, rfl, rfl, rfl, rfl, rfl, rfl⟩
theorem cE (x : E) : cellAt (encE x) 0 = .lit (.int .i64 x.kind) ∧ (∀ i, i < 7 → cellAt (encE x) (i + 1) = cellAt (encV x.old) i) ∧ (∀ i, i < 7 → cellAt (encE x) (i + 8) = cellAt (encV x.new) i) ∧ cellAt (encE x) 15 = .sl (encEF x.fields) ∧ cellAt (encE x) 16 = .lit (.bool x.rests) ∧ cellAt (encE x) 17 = .lit (.string x.ro) ∧ cellAt (encE x) 18 = .lit (.string x.rn) ∧ cellAt (encE x) 19 = .sl (encES x.steps) ∧ cellAt (encE x) 20 = .sl (encEK x.keys) := by
 obtain ⟨k, o, n, f, r, ro, rn, s, ks⟩ := x
 have ho := encV_len o; have hn := encV_len n
 have hs : ∀ i, cellAt (encE (.mk k o n f r ro rn s ks)) (i + 15) = cellAt [.sl (encEF f), .lit (.bool r), .lit (.string ro), .lit (.string rn), .sl (encES s), .sl (encEK ks)] i := fun i => by
  rw [encE]; unfold cellAt
  rw [List.getD_cons_succ, List.getD_eq_getElem?_getD, List.getElem?_append_right (by omega), List.getElem?_append_right (by omega), ho, hn, show i + 14 - 7 - 7 = i by omega, ← List.getD_eq_getElem?_getD]
 refine ⟨by rw [encE]; rfl, fun i hi => ?_, fun i hi => ?_, hs 0, hs 1, hs 2, hs 3, hs 4, hs 5⟩
 ·rw [encE]; unfold cellAt
  rw [List.getD_cons_succ, List.getD_eq_getElem?_getD, List.getElem?_append_left (by omega), ← List.getD_eq_getElem?_getD]; rfl
 ·rw [encE]; unfold cellAt
  rw [List.getD_cons_succ, List.getD_eq_getElem?_getD, List.getElem?_append_right (by omega), List.getElem?_append_left (by omega), ho, show i + 7 - 7 = i by omega, ← List.getD_eq_getElem?_getD]; rfl
theorem cE21 (x : E) : cellAt (encE x) 0 = .lit (.int .i64 x.kind) ∧ cellAt (encE x) 1 = cellAt (encV x.old) 0 ∧ cellAt (encE x) 2 = cellAt (encV x.old) 1 ∧ cellAt (encE x) 3 = cellAt (encV x.old) 2 ∧ cellAt (encE x) 4 = cellAt (encV x.old) 3 ∧ cellAt (encE x) 5 = cellAt (encV x.old) 4 ∧ cellAt (encE x) 6 = cellAt (encV x.old) 5 ∧ cellAt (encE x) 7 = cellAt (encV x.old) 6 ∧ cellAt (encE x) 8 = cellAt (encV x.new) 0 ∧ cellAt (encE x) 9 = cellAt (encV x.new) 1 ∧ cellAt (encE x) 10 = cellAt (encV x.new) 2 ∧ cellAt (encE x) 11 = cellAt (encV x.new) 3 ∧ cellAt (encE x) 12 = cellAt (encV x.new) 4 ∧ cellAt (encE x) 13 = cellAt (encV x.new) 5 ∧ cellAt (encE x) 14 = cellAt (encV x.new) 6 ∧ cellAt (encE x) 15 = .sl (encEF x.fields) ∧ cellAt (encE x) 16 = .lit (.bool x.rests) ∧ cellAt (encE x) 17 = .lit (.string x.ro) ∧ cellAt (encE x) 18 = .lit (.string x.rn) ∧ cellAt (encE x) 19 = .sl (encES x.steps) ∧ cellAt (encE x) 20 = .sl (encEK x.keys) :=
 let ⟨a, b, c, d⟩ := cE x
 ⟨a, b 0 (by decide), b 1 (by decide), b 2 (by decide), b 3 (by decide), b 4 (by decide), b 5 (by decide), b 6 (by decide), c 0 (by decide), c 1 (by decide), c 2 (by decide), c 3 (by decide), c 4 (by decide), c 5 (by decide), c 6 (by decide), d⟩
theorem eZ : (∀ k, (ZK.int k).v = .int k 0) ∧ ZK.str.v = .string ByteArray.empty ∧ ZK.sl.v = .slice none 0 0 ∧ ZK.bool.v = .bool false ∧ (⟨#[]⟩ : ByteArray) = ByteArray.empty ∧ encEF [] = [] ∧ encES [] = [] ∧ encEK [] = [] ∧ encF [] = [] ∧ encL [] = [] ∧ encP [] = [] ∧
  (∀ k o n f r ro rn s ks, E.kind (.mk k o n f r ro rn s ks) = k ∧ E.old (.mk k o n f r ro rn s ks) = o ∧ E.new (.mk k o n f r ro rn s ks) = n ∧ E.fields (.mk k o n f r ro rn s ks) = f ∧ E.rests (.mk k o n f r ro rn s ks) = r ∧ E.ro (.mk k o n f r ro rn s ks) = ro ∧ E.rn (.mk k o n f r ro rn s ks) = rn ∧ E.steps (.mk k o n f r ro rn s ks) = s ∧ E.keys (.mk k o n f r ro rn s ks) = ks) ∧
  (∀ k n t f r l p, V.kind (.mk k n t f r l p) = k ∧ V.num (.mk k n t f r l p) = n ∧ V.text (.mk k n t f r l p) = t ∧ V.fields (.mk k n t f r l p) = f ∧ V.rest (.mk k n t f r l p) = r ∧ V.list (.mk k n t f r l p) = l ∧ V.pairs (.mk k n t f r l p) = p) :=
 ⟨fun _ => rfl, rfl, rfl, rfl, rfl, by rw [encEF], by rw [encES], by rw [encEK], by rw [encF], by rw [encL], by rw [encP], fun _ _ _ _ _ _ _ _ _ => ⟨rfl, rfl, rfl, rfl, rfl, rfl, rfl, rfl, rfl⟩, fun _ _ _ _ _ _ _ => ⟨rfl, rfl, rfl, rfl, rfl, rfl, rfl⟩⟩
theorem drop_c {α : Type} {l r : List α} {i : Nat} {c : α} (h : l.drop i = c :: r) : l[i]? = some c ∧ i < l.length ∧ l.drop (i + 1) = r := by
 have hi : i < l.length := by
  rcases Nat.lt_or_ge i l.length with h' | h'
  ·exact h'
  ·rw [List.drop_eq_nil_of_le h'] at h; cases h
 rw [List.drop_eq_getElem_cons hi] at h
 injection h with h1 h2
 exact ⟨by rw [List.getElem?_eq_getElem hi, h1], hi, h2⟩
theorem drop_n {α : Type} {l : List α} {i : Nat} (h : l.drop i = []) : ¬ ((i : Int) < (l.length : Int)) := by
 have := List.drop_eq_nil_iff.1 h; omega
theorem encF_cells {n : Int} {x : V} {r : List (Int × V)} : encF ((n, x) :: r) = (.lit (.int .i64 n) :: encV x) :: encF r := by rw [encF]
theorem encF_length : ∀ l : List (Int × V), (encF l).length = l.length
 | [] => by rw [encF]; rfl
 | (n, x) :: r => by rw [encF, List.length_cons, List.length_cons, encF_length r]
theorem encL_length : ∀ l : List V, (encL l).length = l.length
 | [] => by rw [encL]; rfl
 | x :: r => by rw [encL, List.length_cons, List.length_cons, encL_length r]
theorem encP_length : ∀ l : List (V × V), (encP l).length = l.length
 | [] => by rw [encP]; rfl
 | (k, x) :: r => by rw [encP, List.length_cons, List.length_cons, encP_length r]
theorem wrap_ix {i n : Nat} (h : i < n) (hn : n ≤ 1000000) : IntKind.i64.wrap ((i : Int) + 1) = (i : Int) + 1 := wrap_in (by omega) (by omega)
theorem encEF_length : ∀ f : List (Int × E), (encEF f).length = f.length
 | [] => by rw [encEF]; rfl
 | (n, e) :: r => by rw [encEF, List.length_cons, List.length_cons, encEF_length r]
theorem encEK_length : ∀ f : List (V × E), (encEK f).length = f.length
 | [] => by rw [encEK]; rfl
 | (n, e) :: r => by rw [encEK, List.length_cons, List.length_cons, encEK_length r]
theorem encES_length : ∀ a : List (Int × Int × V × E), (encES a).length = a.length
 | [] => by rw [encES]; rfl
 | (n, c, v, e) :: r => by rw [encES, List.length_cons, List.length_cons, encES_length r]
def nilP : PV := .d fun _ => .lit (.slice none 0 0)
structure OX {α : Type} (enc : List α → List (List DV)) (fl : List (List DV)) (ok : α → Prop) where
 i : Nat
 rs : List α
 ol : List (List DV)
 hd : fl.drop i = enc rs
 ho : ol = fl.take i
 hok : ∀ x ∈ rs, ok x
theorem oE1 {ol ol2 A : List (List DV)} {qc : List DV} (h : ol2 = ol ++ [qc]) (hA : A = [qc]) : LeR (ol ++ A) ol2 := LeR.of (by rw [h, hA])
theorem take_all {α : Type} {l : List α} {i : Nat} (h : l.drop i = []) : l.take i = l := List.take_of_length_le (List.drop_eq_nil_iff.1 h)
theorem take_next {α : Type} {l r : List α} {i : Nat} {c : α} (h : l.drop i = c :: r) : l.take i ++ [c] = l.take (i + 1) := by
 obtain ⟨h1, h2, _⟩ := drop_c h
 rw [List.take_add_one, h1]; rfl
theorem of_bytes {fl ol : List (List DV)} {i n p m : Nat} (ho : ol = fl.take i) (h : fl.length ≤ 1000000) (hp : p = 1) (hm : m ≤ 1000) : (ol.length + p) * m ≤ 140737488355328 := by
 have h1 : ol.length ≤ 1000000 := by rw [ho, List.length_take]; omega
 have : (ol.length + p) * m ≤ 1000001 * 1000 := Nat.mul_le_mul (by omega) hm
 omega
theorem eszF_length : ∀ l : List (Int × E), l.length ≤ eszF l
 | [] => Nat.zero_le _
 | (n, x) :: r => by have := eszF_length r; rw [eszF, List.length_cons]; omega
theorem eszK_length : ∀ l : List (V × E), l.length ≤ eszK l
 | [] => Nat.zero_le _
 | (n, x) :: r => by have := eszK_length r; rw [eszK, List.length_cons]; omega
theorem eszS_length : ∀ l : List (Int × Int × V × E), l.length ≤ eszS l
 | [] => Nat.zero_le _
 | (k, c, v, e) :: r => by have := eszS_length r; rw [eszS, List.length_cons]; omega
theorem cells_as {n : Nat} {f : Nat → DV} {c : List DV} (h : ∀ i, i < n → f i = cellAt c i) : ((List.range n).map fun i => (.d fun _ => f i : PV)) = cellsP n c := by
 unfold cellsP
 refine List.map_congr_left (fun i hi => ?_)
 rw [h i (List.mem_range.1 hi)]
theorem wrap_mx {i n : Nat} (h : i < n) (hn : n ≤ 9223372036854775807) : IntKind.i64.wrap ((i : Int) + 1) = (i : Int) + 1 := wrap_in (by omega) (by omega)
def rowV (r : Nat) : List (List DV) → PV
 | [] => .d fun _ => .lit (.slice none 0 0)
 | _ :: _ => .own r (r + 1)
def rowO (r t n : Nat) : List (List DV) → List (Nat × Ob)
 | [] => []
 | c :: l => [(r, .row (r + 1) t n (fun _ => c :: l))]
theorem cells_all {fc : List DV} {n : Nat} (h : fc.length = n) : elemsV [(List.range n).map fun i => fun _ => cellAt fc i] = [fc] := by
 subst h
 unfold elemsV
 simp only [List.map_cons, List.map_nil, List.map_map]
 congr 1
 refine List.ext_getElem (by simp) (fun i h1 h2 => ?_)
 simp [cellAt, List.getD_eq_getElem?_getD, List.getElem?_eq_getElem h2]
theorem cells_cons {qc cc nc : List DV} {v : DV} {n : Nat} (k : cellAt qc 0 = v) (h : cc.length = n) (hn : nc = v :: cc) : elemsV [(fun _ => cellAt qc 0) :: (List.range n).map fun i => fun _ => cellAt cc i] = [nc] := by
 have := cells_all h
 unfold elemsV at this ⊢
 rw [hn, ← k]
 simp only [List.map_cons, List.map_nil] at this ⊢
 rw [(List.cons.inj this).1]
def retQ (ev : DV) : Go.Proofs.YtlmbcoecipbblaaGreatDoor.St := ⟨[(4, .ptr 0 0), (5, .d fun _ => ev)], [(0, .blk (zEd.map fun x => .d fun _ => x))], 1, 0⟩
theorem lenC (a : List DV) (l : List (List DV)) : (0 < (((a :: l).length : Nat) : Int)) = True ∧ ((((a :: l).length : Nat) : Int) = 0) = False ∧ (1 ≤ (((a :: l).length : Nat) : Int)) = True ∧ ((0 : Int) ≤ 1) = True := ⟨eq_T (by simp), by simp; omega, eq_T (by simp only [List.length_cons]; omega), eq_T (by decide)⟩
theorem lenN : (0 < ((([] : List (List DV)).length : Nat) : Int)) = False ∧ (((([] : List (List DV)).length : Nat) : Int) = 0) = True := ⟨by simp, by simp⟩
theorem leD_tail (a : List DV) (l : List (List DV)) : LeD (DV.sl (List.drop (Int.toNat 1) (List.take (((a :: l).length : Nat) : Int).toNat (a :: l)))) (DV.sl l) := LeD.of (by simp)
theorem cells_two {qc vc cc nc : List DV} {m n : Nat} (k : ∀ i, i < m → cellAt qc i = cellAt vc i) (hv : vc.length = m) (h : cc.length = n) (hn : nc = vc ++ cc) : elemsV [((List.range m).map fun i => fun _ => cellAt qc i) ++ (List.range n).map fun i => fun _ => cellAt cc i] = [nc] := by
 have h1 := cells_all hv
 have h2 := cells_all h
 unfold elemsV at h1 h2 ⊢
 rw [hn]
 simp only [List.map_cons, List.map_nil, List.map_append] at h1 h2 ⊢
 rw [(List.cons.inj h2).1, show (List.map (fun x : Unit → DV => x ()) (List.map (fun i x => cellAt qc i) (List.range m))) = (List.map (fun x : Unit → DV => x ()) (List.map (fun i x => cellAt vc i) (List.range m))) from by
  rw [List.map_map, List.map_map]; exact List.map_congr_left (fun i hi => k i (List.mem_range.1 hi)), (List.cons.inj h1).1]
theorem cell_app1 {a b : List DV} {i : Nat} (h : i < a.length) : cellAt (a ++ b) i = cellAt a i := by
 unfold cellAt; rw [List.getD_eq_getElem?_getD, List.getElem?_append_left h, ← List.getD_eq_getElem?_getD]
theorem cell_app2 {a b : List DV} {n i : Nat} (h : a.length = n) : cellAt (a ++ b) (i + n) = cellAt b i := by
 unfold cellAt; rw [List.getD_eq_getElem?_getD, List.getElem?_append_right (by omega), h, Nat.add_sub_cancel, ← List.getD_eq_getElem?_getD]
open Val (V E right eright Res ado)
structure Errs where
 tf : TypeId
 vf : Value
 tk : TypeId
 vk : Value
 tc : TypeId
 vc : Value
abbrev Errs.f (er : Errs) : Value := .iface er.tf er.vf
abbrev Errs.k (er : Errs) : Value := .iface er.tk er.vk
abbrev Errs.c (er : Errs) : Value := .iface er.tc er.vc
def Errs.of (er : Errs) (n : Nat) : Value := if n = 9 then er.f else if n = 12 then er.k else er.c
def Val.avalue (e : E) (v : V) : Res V := if eright e = true ∧ right v = true then ado e v else .bad 9
def gE (er : Errs) : List (Nat × List DV) := [(0, [.lit er.f]), (1, [.lit er.k]), (12, [.lit er.c])]
theorem cell_of_gl {h : Frag} {w : World} {g : Nat} {v : Value} (hl : FLe h (frag w)) (hd : GlR h g [.lit v]) : w.cell? ⟨g, 0, none⟩ = some v := by
 obtain ⟨cur, t, fr, ws, h1, h2, h3, _⟩ := hd
 have h3' : w.heap[g]? = some (.cells cur t fr) := hl _ _ h1
 obtain ⟨x, xs, h4, h5, h6⟩ := DRs_cons.1 h3
 rw [DRs] at h6; subst h6
 rw [DR] at h5
 obtain ⟨rfl, _⟩ := h5
 have := h2 0 x (by rw [h4]; rfl)
 simp [World.cell?, h3', this]
def EVr (er : Errs) : Res V → List DV → DV → Prop
 | .ok x, c, ev => c = encV x ∧ ev = .lit .nilIface
 | .bad b, c, ev => c = zVd ∧ ev = .lit (er.of b)
def EEr (er : Errs) : Res E → List DV → DV → Prop
 | .ok x, c, ev => c = encE x ∧ ev = .lit .nilIface
 | .bad b, c, ev => c = zEd ∧ ev = .lit (er.of b)
theorem er_face (er : Errs) (b : Nat) : ∃ t v, er.of b = .iface t v := by
 unfold Errs.of
 split
 ·exact ⟨_, _, rfl⟩
 ·split <;> exact ⟨_, _, rfl⟩
theorem rv_nil {er : Errs} {r : Res V} {c : List DV} {ev : DV} (h : EVr er r c ev) : ∃ b, (bopD .ifc .neq ev (.lit .nilIface) = some (.lit (.bool b)) ∧ BopOk .ifc .neq ev (.lit .nilIface) = True) ∧ (b = true → ∃ n, r = .bad n ∧ ev = .lit (er.of n)) ∧ (b = false → ∃ x, r = .ok x ∧ c = encV x ∧ ev = .lit .nilIface) := by
 cases r with
 | bad n =>
  obtain ⟨rfl, rfl⟩ := h
  obtain ⟨t, v, hev⟩ := er_face er n
  have q : bopD .ifc .neq (.lit (er.of n)) (.lit .nilIface) = some (.lit (.bool true)) := by rw [hev]; simp [bopD, bopV]
  exact ⟨true, ⟨q, eq_T ⟨_, q⟩⟩, fun _ => ⟨n, rfl, rfl⟩, fun e => (by cases e)⟩
 | ok x =>
  obtain ⟨rfl, rfl⟩ := h
  have q : bopD .ifc .neq (.lit .nilIface) (.lit .nilIface) = some (.lit (.bool false)) := by simp [bopD, bopV]
  exact ⟨false, ⟨q, eq_T ⟨_, q⟩⟩, fun e => (by cases e), fun _ => ⟨x, rfl, rfl, rfl⟩⟩
theorem re_nil {er : Errs} {r : Res E} {c : List DV} {ev : DV} (h : EEr er r c ev) : ∃ b, (bopD .ifc .neq ev (.lit .nilIface) = some (.lit (.bool b)) ∧ BopOk .ifc .neq ev (.lit .nilIface) = True) ∧ (b = true → ∃ n, r = .bad n ∧ ev = .lit (er.of n)) ∧ (b = false → ∃ x, r = .ok x ∧ c = encE x ∧ ev = .lit .nilIface) := by
 cases r with
 | bad n =>
  obtain ⟨rfl, rfl⟩ := h
  obtain ⟨t, v, hev⟩ := er_face er n
  have q : bopD .ifc .neq (.lit (er.of n)) (.lit .nilIface) = some (.lit (.bool true)) := by rw [hev]; simp [bopD, bopV]
  exact ⟨true, ⟨q, eq_T ⟨_, q⟩⟩, fun _ => ⟨n, rfl, rfl⟩, fun e => (by cases e)⟩
 | ok x =>
  obtain ⟨rfl, rfl⟩ := h
  have q : bopD .ifc .neq (.lit .nilIface) (.lit .nilIface) = some (.lit (.bool false)) := by simp [bopD, bopV]
  exact ⟨false, ⟨q, eq_T ⟨_, q⟩⟩, fun e => (by cases e), fun _ => ⟨x, rfl, rfl, rfl⟩⟩
theorem re_ex (er : Errs) (r : Res E) : ∃ c ev, EEr er r c ev := by
 cases r with
 | bad n => exact ⟨_, _, rfl, rfl⟩
 | ok x => exact ⟨_, _, rfl, rfl⟩
theorem rv_ex (er : Errs) (r : Res V) : ∃ c ev, EVr er r c ev := by
 cases r with
 | bad n => exact ⟨_, _, rfl, rfl⟩
 | ok x => exact ⟨_, _, rfl, rfl⟩
end Go.Proofs.YtlmbcoecipbblaaGreatDoor
