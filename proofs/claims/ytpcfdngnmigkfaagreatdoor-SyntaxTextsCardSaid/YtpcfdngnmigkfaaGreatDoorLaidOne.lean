/- Package-level variables that hold errors, as the program's text lays them; the wrap that keeps the world's shape. -/
import Derived.Test.YtpcfdngnmigkfaaGreatDoorGroupA
import Derived.Test.YtpcfdngnmigkfaaGreatDoorTie
import Derived.ProofKit
import Derived.LaidMore
import Derived.OpenShut
import Derived.Stop.Joined
import Derived.SizedLaws
set_option linter.unusedVariables false
set_option linter.unusedSimpArgs false
namespace Go.Proofs.YtpcfdngnmigkfaaGreatDoor
open Go.ChangeShapes Go.WideShapes Go.ChangeAt Go.RowKit
theorem laid_one {P : Program} {W : World} {nm : String} {ti tp te ts : TypeId} {ms : Array (String × TypeId)} {f : Field} (hi : P.underlying ti = some (.interface ms)) (hrow : ∀ u, P.typeName? 3 u = some nm → u = tp)
  (hp : P.underlying tp = some (.pointer te)) (he : P.underlying te = some (.struct #[f])) (hft : f.type = ts) (hfo : f.offset = 0) (hs : P.underlying ts = some .string) (hc : P.cellsOf te = 1) (hcs : P.cellsOf ts = 1) :
  ∀ (l : List (String × DataW Unit)) (ps : List MemPlace), DataW.LaidVars P W l ps →
   (∀ b off, MemPlace.cell b off ∈ ps → (∃ c t, W.heap[b]? = some (.cells c t (0, 0))) ∧ ∀ u v, W.cell? ⟨b, off, none⟩ = some (.iface u v) → Value.okWide P W .any 0 u v) →
   ∀ n tx, (n, (.iface nm (.ptr (.agg [.lit (.string tx)])) : DataW Unit)) ∈ l → ∀ g, P.globalNamed n = some g → (P.globals[g]?).map (·.type) = some ti →
   ∃ a : Addr, W.cell? ⟨g, 0, none⟩ = some (.iface tp (.pointer (some a)))
 | [], ps, h, _, n, tx, hm, _, _, _ => by cases hm
 | (n0, d0) :: r, ps, h, hrows, n, tx, hm, g', hg', ht' => by
  obtain ⟨g, t, cs, fu, p, q, hg, ht, hv, hd, hrest, rfl⟩ := h
  rcases List.mem_cons.1 hm with e | hm
  ·cases e
   obtain rfl := Option.some.inj (hg'.symm.trans hg)
   obtain rfl := Option.some.inj (ht'.symm.trans ht)
   obtain ⟨l0⟩ := cs
   have hsz : 0 < l0.length := by
    obtain ⟨_, u, v, e, _⟩ := iface_of_trod hi hd
    have e : l0 = _ := e
    rw [e]; simp
   have ok0 : ∀ u v, l0 = [.iface u v] → Value.okWide P W .any 0 u v := fun u v e => by
    subst e
    exact (hrows g' 0 (by simp [MemPlace.row])).2 u v (by simpa using World.var?_cell hg hv 0)
   obtain ⟨a, s, e0, hca, hst, hzs, rfl⟩ := errorString_of_trod hi hrow hp he hft hfo hs hc hcs hd ok0
   have e0 : l0 = _ := e0
   subst e0
   exact ⟨a, by simpa using World.var?_cell hg hv 0⟩
  ·exact laid_one hi hrow hp he hft hfo hs hc hcs r q hrest (fun b off hx => hrows b off (List.mem_append_right _ hx)) n tx hm g' hg' ht'
theorem lo_starE : "*" ++ "errors.errorString" = "*errors.errorString" := by decide
theorem lo_rowE (u : TypeId) (h : Tryz.prog.typeName? 3 u = some "*errors.errorString") : u = 216 :=
 typeName_ptr_named (nm := "errors.errorString") (by rw [lo_starE]; kernel_rfl) (by kernel_rfl) (by decide) u (by rw [lo_starE]; exact h)
theorem returnsInHanded_and_shaped {H : Type} {enc : TypeId × Value → H} {a : Assume} {C : Checked} {os : Os} {f : FuncId} {fn : Func} {s : ChangeSpec} {conds : List PathCond} {apart fresh handsOn again : Bool} {X : World → Array Value → Prop}
  (hX : ∀ (w w' : World) (args : Array Value), w.heap = w'.heap → X w args → X w' args)
  (own : ownKnob C.prog.godebug = none) (started : os.Started) (noInit : C.prog.inits.idxOf? f = none) (hfn : C.prog.funcs[f]? = some fn)
  (witness : ∃ (w : World) (tape : Tape) (i : Input), w.os = os ∧ (w.forCall tape i).Shaped C.prog ∧ i.vars = [] ∧ Input.okWide C.prog (w.forCall tape i) .any w.heap.size f i ∧
   ((s.pre enc C.prog fn conds apart (w.forCall tape i).memory i.args ∧ X (w.forCall tape i).memory i.args) ∧ sizedMet enc C.prog fn (OpenSpec.ofChange s) apart (w.forCall tape i).memory i.args) ∧ a.holds C.prog (lone (Frame.enter C.prog f i.args .normal) [] (w.forCall tape i)))
  (contract : ∀ (W : World) (base : Nat) (args : Array Value) (ds gs : List (DataW H)) (before : List MemPlace),
   (∀ (j : Nat) t v, fn.params[j]? = some t → args[j]? = some v → Value.okWide C.prog W .any base t v) →
   DataW.Whole enc C.prog fn.params.toList s.vars apart W args.toList ds gs before →
   conds.all (PathCond.test C.prog ⟨fn.params.toList, ds, s.plain.varTypes C.prog, gs⟩) = true →
   (DataW.weightsEach C.prog (fn.params.toList ++ s.plain.varTypes C.prog) (ds ++ gs)).all (· ≤ reachBytes) = true → X W args → W.ShapedOpen C.prog →
   a.holds C.prog (lone (Frame.enter C.prog f args .normal) [] W) →
   Calls C.prog f args W fun e W' => ∃ v, e = .returned v ∧ s.post enc C.prog fn apart fresh handsOn again W args v W') :
  ReturnsInHanded a C os f .any (fun w args => (s.pre enc C.prog fn conds apart w args ∧ X w args) ∧ sizedMet enc C.prog fn (OpenSpec.ofChange s) apart w args) (s.post enc C.prog fn apart fresh handsOn again) := by
 refine returnsInHanded_of_calls own started noInit witness ?_
 intro w tape i _ hsh _ hok hpre hholds
 obtain ⟨_, _, _, fn', hfn', _, _, _, _, hval⟩ := hok
 have e : fn' = fn := Option.some.inj (hfn'.symm.trans hfn)
 subst e
 obtain ⟨⟨⟨ds, gs, before, hw, hc⟩, hx⟩, hz⟩ := hpre
 have hw' := DataW.Whole.of_heap (w' := w.forCall tape i) (by rfl) hw
 refine (contract (w.forCall tape i) w.heap.size i.args ds gs before hval hw' hc (hz.weights hw) (hX _ _ _ (by rfl) hx) hsh hholds).mono fun e W' ⟨v, he, hp⟩ => ?_
 subst he
 exact ChangeSpec.post_blind hp
end Go.Proofs.YtpcfdngnmigkfaaGreatDoor
