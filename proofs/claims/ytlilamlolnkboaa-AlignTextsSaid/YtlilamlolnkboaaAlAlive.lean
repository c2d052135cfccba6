/- redlinelaw20.alive, walked. -/
import Derived.Test.YtlilamlolnkboaaAlSame
import Derived.Test.YtlilamlolnkboaaStrs
namespace Go.Proofs.Ytlilamlolnkboaa
open Go.RowKit Go.WideShapes
open Num (ix add rowOf rowsOf knownOf total)
set_option linter.unusedVariables false

theorem made_strs {w : World} (l : List ByteArray) {n : Nat} (hn : l.length = n) (hs : ∀ s ∈ l, s.size ≤ maxLen) (hm : n ≤ maxLen) : ListV StrR (frag (w.alloc (.cells (l.map Value.string).toArray 9))) (.slice (some ⟨w.heap.size, 0, none⟩) n n) l :=
  ListV.made _ l (by simpa using hn) hn hm (fun i hv hx => by simpa [StrR] using hs _ (List.getElem_mem _))
theorem made_flat {α : Type} {f : α → List Value} {s : Nat} {w : World} {e : TypeId} (new : Array Value) (xs : List α) {n : Nat} (hx : xs.length = n) (hm : n ≤ maxLen) (hn : new.size = n * s) (hf : new.toList = xs.flatMap f) :
    FlatV f (frag (w.alloc (.cells new e))) (.slice (some ⟨w.heap.size, 0, none⟩) n n) xs := by
  have h1 := World.ownsRow_lit (base := w.heap.size) (e := e) (size := s) w new n (Nat.le_refl _) hm (by simpa using hn)
  rw [hf] at h1
  have := FlatV.of_owns (E := []) h1 hx (.inr (by simp))
  rw [fragE_nil] at this
  exact this

set_option maxRecDepth 100000 in
set_option maxHeartbeats 4000000 in
theorem alive20 (w : World) : Calls Try.prog 4 #[] w fun e w' => e = .returned (.bool true) ∧ Below w.heap.size w w' := by
  have h1 := made_strs (w := w) [⟨#[97]⟩, ⟨#[98]⟩] (n := 2) rfl (by decide) (by decide)
  have h2 := made_strs (w := w.alloc (.cells #[.string ⟨#[97]⟩, .string ⟨#[98]⟩] 9)) [⟨#[98]⟩, ⟨#[99]⟩] (n := 2) rfl (by decide) (by decide)
  have Hc := Lib.hid (texts_any (.slice (some ⟨w.heap.size, 0, none⟩) 2 2) (.slice (some ⟨w.heap.size + 1, 0, none⟩) 2 2) [⟨#[97]⟩, ⟨#[98]⟩] [⟨#[98]⟩, ⟨#[99]⟩] ((w.alloc (.cells #[.string ⟨#[97]⟩, .string ⟨#[98]⟩] 9)).alloc (.cells #[.string ⟨#[98]⟩, .string ⟨#[99]⟩] 9))
    (ListV.mono StrR.mono h1 (alloc_le _ _)) (by simpa using h2) (by decide) (by decide))
  clear h1 h2
  go_enter Try.func4, Try.ntmps4
  go_wp2_with fail
  refine Hc.out.mono ?_
  rintro e w1 ⟨u, rfl, hu, hb⟩
  have hb1 : Below w.heap.size w w1 := (((Below.refl w.heap.size w).alloc (Nat.le_refl _) _).alloc (by simp) _).trans (hb.mono (by simp; omega))
  clear hb Hc
  have hk : kindsOf [⟨#[97]⟩, ⟨#[98]⟩] [⟨#[98]⟩, ⟨#[99]⟩] = [2, 1, 3] := alive_kinds
  rw [hk] at hu
  have Hs := Lib.hid (samesteps_any (placed 0 0 [2, 1, 3]) u (.slice (some ⟨w1.heap.size, 0, none⟩) 3 3) (w1.alloc (.cells #[.int .i64 3, .int .i64 0, .int .i64 0, .int .i64 1, .int .i64 1, .int .i64 0, .int .i64 4, .int .i64 2, .int .i64 1] 34))
    (hu.mono (alloc_le _ _)) (made_flat (s := 3) _ _ rfl (by decide) rfl rfl))
  have Hk := Lib.hid (fun (wk : World) (hb : Below w1.heap.size w1 wk) => kept_any [2, 1, 3] u wk (hu.mono (below_le hb)) (by decide))
  obtain ⟨a, c, rfl, hlc, hcm, _⟩ := hu.len
  clear hu hk
  go_wp2_with fail
  refine Hs.out.mono ?_
  rintro e w2 ⟨rfl, hb2⟩
  have hb12 : Below w1.heap.size w1 w2 := ((Below.refl w1.heap.size w1).alloc (Nat.le_refl _) _).trans (hb2.mono (by simp))
  clear hb2 Hs
  go_wp2_with fail
  refine (Hk.out _ hb12).mono ?_
  rintro e w3 ⟨rfl, hb3⟩
  rw [show ((keeps [2, 1, 3] : Nat) : Int) = 1 from rfl]
  go_wp2_with fail
  go_ret
  exact ⟨rfl, hb1.trans ((hb12.trans (hb3.mono hb12.size)).mono hb1.size)⟩

end Go.Proofs.Ytlilamlolnkboaa
