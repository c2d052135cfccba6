/- myers.behind: from, edits, walked. -/
import Derived.Test.YtlilamlolnkboaaMyLookW
import Derived.Test.YtlilamlolnkboaaMySteps
namespace Go.Proofs.Ytlilamlolnkboaa
open Go.RowKit Go.WideShapes
open My (D Least Slid Ok U)
set_option linter.unusedVariables false

def FromPost (w : World) (xs ys : List Int) (v u : Value) (e : Ending) (w' : World) : Prop :=
  ∃ b vr rows, e = .returned (.tuple #[.pointer (some ⟨b, 0, none⟩), .bool true]) ∧ BV (frag w') b xs ys rows v u vr ∧ RowsOk xs ys (D xs ys 0 0 + 1) rows ∧ rows.length = D xs ys 0 0 + 1 ∧ Below w.heap.size w w'

set_option maxRecDepth 100000 in
set_option maxHeartbeats 4000000 in
theorem from_any (xs ys : List Int) (v u : Value) (w : World) (hv : ListV IntR (frag w) v xs) (hu : ListV IntR (frag w) u ys) (hx : xs.length < 1000000) (hy : ys.length < 1000000) (hD : xs.length + ys.length ≤ 400) :
    Calls Try.prog 21 #[v, u] w (FromPost w xs ys v u) := by
  obtain ⟨a1, c1, rfl, _⟩ := hv.len
  obtain ⟨a2, c2, rfl, _⟩ := hu.len
  generalize hn : xs.length = n at hv ⊢
  generalize hm : ys.length = m at hu ⊢
  have hD0 := My.D_le xs ys
  have hB : Below w.heap.size w (w.alloc (.cells #[.slice a1 n c1, .slice a2 m c2, .slice none 0 0] 59)) := (Below.refl _ _).alloc (Nat.le_refl _) _
  have hle : FLe (frag w) (fragE (w.alloc (.cells #[.slice a1 n c1, .slice a2 m c2, .slice none 0 0] 59)) ((Value.slice none 0 0).ownBlock :: some w.heap.size :: [])) := below_leE hB (fun k hk => by
    simp only [Value.ownBlock, List.mem_cons, List.not_mem_nil, or_false] at hk
    rcases hk with e | e
    · cases e
    · cases e; exact Nat.le_refl _)
  have HL := Lib.hid (look_any w.heap.size 59 xs ys (.slice a1 n c1) (.slice a2 m c2) (w.alloc (.cells #[.slice a1 n c1, .slice a2 m c2, .slice none 0 0] 59))
    ⟨heap_alloc_new w _, World.ownsRow_nil _ _ _ _, ⟨rfl, fun x hv => by simp at hv⟩, ListV.mono IntR.mono hv hle, ListV.mono IntR.mono hu hle, World.grownBy.refl _ _, by simp⟩ hx hy (by omega))
  have HB := Lib.hid hB
  clear hv hu hB hle
  go_enter Try.func21, Try.ntmps21
  go_wp2_with fail
  refine HL.out.mono ?_
  rintro e w1 ⟨rfl, vr, rows, hbv, hok, hlen, hg⟩
  have Hbv := Lib.hid hbv; have Hok := Lib.hid hok; have Hlen := Lib.hid hlen
  clear hbv hok hlen
  go_wp2_with fail
  go_ret2
  exact ⟨_, vr, rows, rfl, Hbv.out, Hok.out, Hlen.out, HB.out.grown hg (by simp) (fun k e => by cases e; exact Nat.le_refl _)⟩

def editsR (xs ys : List Int) (N x y : Nat) : Int := if D xs ys x y ≤ N then (D xs ys x y : Int) else U

set_option maxRecDepth 100000 in
set_option maxHeartbeats 4000000 in
theorem edits_any (b : Nat) (xs ys : List Int) (va vb vr : Value) (rows : List (List Int)) (N : Nat) (w : World) (hv : BV (frag w) b xs ys rows va vb vr) (hok : RowsOk xs ys (N + 1) rows) (hrl : rows.length = N + 1) (hN : N < 100000) (hx : xs.length < 1000000) (hy : ys.length < 1000000) (x y : Nat) (hxx : x ≤ xs.length) (hyy : y ≤ ys.length) :
    Calls Try.prog 23 #[.pointer (some ⟨b, 0, none⟩), .int .i64 x, .int .i64 y] w fun e w' => e = .returned (.int .i64 (editsR xs ys N x y)) ∧ Below w.heap.size w w' := by
  obtain ⟨hc0, hc1, hc2, hb⟩ := hv.cells
  obtain ⟨a3, p3, rfl, h3, h4, _⟩ := hv.2.2.2.len
  rw [hrl] at hc2 h3 hv
  unfold maxLen at h4
  have Hv := Lib.hid hv; have Hok := Lib.hid hok; have Hrl := Lib.hid hrl
  have Hx := Lib.hid hx; have Hy := Lib.hid hy; have Hxx := Lib.hid hxx; have Hyy := Lib.hid hyy
  have hxb : x < 1000000 := by omega
  have hyb : y < 1000000 := by omega
  clear hv hok hrl hx hy hxx hyy
  go_enter Try.func23, Try.ntmps23
  go_wp2_with fail
  go_loopw [13] (fun i wr => ∃ k : Nat, k ≤ N + 1 ∧ i = .int .i64 k ∧ Hid (k ≤ D xs ys x y) ∧ Below w.heap.size w wr) (fun i _ => N + 1 - (intOf i).toNat)
  case atStart => exact ⟨0, Nat.zero_le _, rfl, Nat.zero_le _, Below.refl _ _⟩
  case round =>
    obtain ⟨k, hk, rfl, Hlo, hbel⟩ := hrel
    by_cases hlt : k < N + 1
    · have HL := Lib.hid (least_any b xs ys _ _ _ rows wr (Hv.out.mono (below_le hbel)) Hx.out Hy.out k ((x : Int) - y) (by rw [Hrl.out]; exact hlt) (by omega) (by omega) (by omega))
      go_wp2_with fail
      refine HL.out.mono ?_
      rintro e1 w2 ⟨r, rfl, hr, hb2⟩
      have hiff := (Hok.out.least hlt hr).le Hx.out Hxx.out Hyy.out rfl
      have hbel2 := hbel.trans (hb2.mono hbel.size)
      clear hr
      by_cases hle : r ≤ x
      · have Hd := Lib.hid (hiff.1 hle)
        clear hiff
        go_wp2_with fail
        go_ret
        refine ⟨?_, hbel2⟩
        have h1 := Hd.out
        have h2 := Hlo.out
        have e2 : D xs ys x y = k := by omega
        unfold editsR
        rw [e2, if_pos (by omega)]
        rfl
      · have Hd := Lib.hid (fun h => hle (hiff.2 h))
        clear hiff
        go_wp2_with fail
        go_roundw
        case rel => exact ⟨k + 1, by omega, by simp, Nat.lt_of_not_le Hd.out, hbel2⟩
        case measure => simp [intOf]; omega
    · obtain rfl : k = N + 1 := by omega
      clear hk
      go_wp2_with fail
      go_ret
      refine ⟨?_, hbel⟩
      have h2 := Hlo.out
      unfold editsR
      rw [if_neg (by omega)]
      rfl

end Go.Proofs.Ytlilamlolnkboaa
