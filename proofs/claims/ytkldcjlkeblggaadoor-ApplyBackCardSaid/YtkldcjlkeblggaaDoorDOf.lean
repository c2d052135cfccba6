/- The rower's steps by their kind. -/
import Derived.Test.YtkldcjlkeblggaaDoorDChange
namespace Go.Proofs.YtkldcjlkeblggaaDoor
open Go.RowKit
open Val (V E cmp right eright esm v0 Res ado adoS get find withV putV vmx esz partB stepB)
set_option linter.unusedVariables false
set_option linter.unusedSimpArgs false
variable {Fx : List (Option Nat)}

def Val.stepR (k c : Int) (v : V) (e : E) (l o : List V) : Res (List V × List V) :=
  if k = 1 then Val.keepR c.toNat l o else if k = 2 then Val.dropR v l o else if k = 3 then .ok (l, o ++ [v]) else Val.changeR e l o
theorem Val.adoS_step (k c : Int) (v : V) (e : E) (r : List (Int × Int × V × E)) (l o : List V) (hc : k = 1 → 0 ≤ c) : adoS ((k, c, v, e) :: r) l o = match Val.stepR k c v e l o with
    | .bad b => .bad b
    | .ok p => adoS r p.1 p.2 := by
  rw [adoS.eq_def]
  unfold Val.stepR Val.keepR Val.dropR Val.changeR
  simp only []
  by_cases h1 : k = 1
  · rw [if_pos h1, if_pos h1]
    have := hc h1
    by_cases h : (l.length : Int) < c
    · rw [if_pos h, if_pos (by omega)]
    · rw [if_neg h, if_neg (by omega)]
  · rw [if_neg h1, if_neg h1]
    by_cases h2 : k = 2
    · rw [if_pos h2, if_pos h2]
      cases l with
      | nil => rfl
      | cons x l' =>
        simp only []
        by_cases h : cmp x v = 0
        · rw [if_pos h, if_pos h]
        · rw [if_neg h, if_neg h]
    · rw [if_neg h2, if_neg h2]
      by_cases h3 : k = 3
      · rw [if_pos h3, if_pos h3]
      · rw [if_neg h3, if_neg h3]
        cases l with
        | nil => rfl
        | cons x l' =>
          simp only []
          cases ado e x with
          | bad b => rfl
          | ok y =>
            simp only []
            by_cases h : 1 ≤ y.kind ∧ y.kind ≤ 3
            · rw [if_pos h, if_pos h]
            · rw [if_neg h, if_neg h]

def fnOf (k : Int) : Nat := if k = 1 then 67 else if k = 2 then 68 else if k = 3 then 69 else 70

set_option maxRecDepth 100000 in
theorem of_any (k : Int) (w : World) : Calls Tryd.prog 54 #[.int .i64 k] w fun e w' => e = .returned (.func (.func (fnOf k)) #[] #[]) ∧ w' = w := by
  go_enter Tryd.func54, Tryd.ntmps54
  go_wp2_with fail
  all_goals
    go_ret
    refine ⟨?_, rfl⟩
    simp_all [fnOf]

theorem run_fnOf (k : Int) (args : Array Value) (w : World) : (callFunc (fnOf k) args).run Tryd.prog w = .ok (.enter (fnOf k) args) w := by
  unfold fnOf
  split
  · exact Tryd.call67 _ _
  · split
    · exact Tryd.call68 _ _
    · split
      · exact Tryd.call69 _ _
      · exact Tryd.call70 _ _

theorem step_fn (er : Errs) (N : Nat) (ih : DoAt er N) (w : World) (he : ErrsAt er w) (gr : Nat) (hG : ErrsLt gr) (av : Option Addr) (n cap : Nat) (ov : Value) (l o : List V) (les oes : List (List Value)) (hr : RowAt Fx w gr av n cap ov l o les oes) (k c : Int) (v : V) (e : E) (vc xc : List Value)
    (hv : VR (fragE w (some gr :: ov.ownBlock :: Fx)) v vc) (hx : ER (fragE w (some gr :: ov.ownBlock :: Fx)) e xc) (hst : stepB k c v e) (hs : SizeOf.sizeOf e < N) (hsm : esm e) (hlr : ∀ y ∈ l, right y = true ∧ vmx y + esz e ≤ 90000) (hlen : l.length + o.length ≤ 1000000000) (hFx : ∀ k, some k ∈ Fx → k < gr) :
    Calls Tryd.prog (fnOf k) #[.pointer (some ⟨gr, 0, none⟩), .agg (Value.int .i64 k :: .int .i64 c :: (vc ++ xc)).toArray] w (StepPost er Fx w gr (Val.stepR k c v e l o)) := by
  have hL : o.length ≤ 1000000000 := by omega
  rcases hst with ⟨rfl, h1, h2⟩ | ⟨rfl, h1⟩ | ⟨rfl, h1⟩ | ⟨rfl, h1⟩
  · obtain ⟨m, rfl⟩ := Int.eq_ofNat_of_zero_le (show 0 ≤ c by omega)
    exact keep_any er w he gr av n cap ov l o les oes hr 1 m (vc ++ xc) (by omega) hlen
  · exact drop_any er w he gr hG av n cap ov l o les oes hr 2 c v vc xc hv
  · exact put_any' er w gr av n cap ov l o les oes hr 3 c v vc xc hv hL
  · exact change_at er N ih w he gr hG av n cap ov l o les oes hr 4 c vc hv.len e xc hx hs h1 hsm hlr hL hFx

end Go.Proofs.YtkldcjlkeblggaaDoor
