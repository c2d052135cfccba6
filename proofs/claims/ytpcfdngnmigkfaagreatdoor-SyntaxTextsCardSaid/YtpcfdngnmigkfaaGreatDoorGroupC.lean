/- Package lexer, walked: what a byte is; how many bytes of a kind a text begins with. What the lexer's walks need of package-level variables; the library's contracts over bytes. Package lexer, walked: the scanner goes on by bytes. Package lexer, walked: remarks. Package lexer, walked: gaps. -/
import Derived.Test.YtpcfdngnmigkfaaGreatDoorLxPlain
import Derived.Shelf.Abstract
import Derived.Test.YtpcfdngnmigkfaaGreatDoorShelf
import Derived.Lib.IndexAny
import Derived.Test.YtpcfdngnmigkfaaGreatDoorGroupA
set_option linter.unusedVariables false
set_option linter.unusedSimpArgs false
namespace Go.Proofs.YtpcfdngnmigkfaaGreatDoor
open Go.RowKit
theorem letter_i (b : UInt8) : Lx.letter b = (((decide (97 ≤ (b.toNat : Int)) && decide ((b.toNat : Int) ≤ 122)) || (decide (65 ≤ (b.toNat : Int)) && decide ((b.toNat : Int) ≤ 90))) || ((b.toNat : Int) == 95)) := by
 unfold Lx.letter
 have h : ∀ (k : UInt8) , (decide (k ≤ b) = decide ((k.toNat : Int) ≤ (b.toNat : Int))) ∧ (decide (b ≤ k) = decide ((b.toNat : Int) ≤ (k.toNat : Int))) := fun k => by
  simp only [UInt8.le_iff_toNat_le]; constructor <;> exact decide_eq_decide.2 (by omega)
 have e : (b == 95) = ((b.toNat : Int) == 95) := by
  rw [Bool.eq_iff_iff, beq_iff_eq, beq_iff_eq, ← UInt8.toNat_inj]
  show b.toNat = 95 ↔ _
  omega
 rw [(h 97).1, (h 122).2, (h 65).1, (h 90).2, e]; rfl
theorem figure_i (b : UInt8) : Lx.figure b = (decide (48 ≤ (b.toNat : Int)) && decide ((b.toNat : Int) ≤ 57)) := by
 unfold Lx.figure
 have h : ∀ (k : UInt8) , (decide (k ≤ b) = decide ((k.toNat : Int) ≤ (b.toNat : Int))) ∧ (decide (b ≤ k) = decide ((b.toNat : Int) ≤ (k.toNat : Int))) := fun k => by
  simp only [UInt8.le_iff_toNat_le]; constructor <;> exact decide_eq_decide.2 (by omega)
 rw [(h 48).1, (h 57).2]; rfl
set_option maxHeartbeats 1000000 in
theorem letter_any (b : UInt8) (w : World) : Calls Tryz.prog 72 #[.int .u8 b.toNat] w fun e w' => e = .returned (.bool (Lx.letter b)) ∧ w = w' := by
 rw [letter_i]
 generalize (b.toNat : Int) = n
 by_cases h1 : 97 ≤ n <;> by_cases h2 : n ≤ 122 <;> by_cases h3 : 65 ≤ n <;> by_cases h4 : n ≤ 90 <;> by_cases h5 : n = 95
 all_goals first
  | (exfalso; omega)
  | (first
    | (subst h5
       go_enter Tryz.func72, Tryz.ntmps72
       go_wp2
       go_ret
       exact ⟨rfl, rfl⟩)
    | (have h6 : (n == 95) = false := beq_eq_false_iff_ne.2 h5
       clear h5
       go_enter Tryz.func72, Tryz.ntmps72
       go_wp2
       go_ret
       exact ⟨ret_bool (by simp [h1, h2, h3, h4, h6]), rfl⟩))
set_option maxHeartbeats 1000000 in
theorem figure_any (b : UInt8) (w : World) : Calls Tryz.prog 73 #[.int .u8 b.toNat] w fun e w' => e = .returned (.bool (Lx.figure b)) ∧ w = w' := by
 rw [figure_i]
 generalize (b.toNat : Int) = n
 by_cases h1 : 48 ≤ n <;> by_cases h2 : n ≤ 57
 all_goals
  go_enter Tryz.func73, Tryz.ntmps73
  go_wp2
  go_ret
  exact ⟨ret_bool (by simp [h1, h2]), rfl⟩
set_option maxHeartbeats 1000000 in
theorem inner_any (b : UInt8) (w : World) : Calls Tryz.prog 43 #[.int .u8 b.toNat] w fun e w' => e = .returned (.bool (Lx.inner b)) ∧ w = w' := by
 have HL := Yq (fun w0 => letter_any b w0)
 have HF := Yq (fun w0 => figure_any b w0)
 unfold Lx.inner
 generalize Lx.letter b = l at *
 generalize Lx.figure b = f at *
 cases l
 all_goals
  go_enter Tryz.func43, Tryz.ntmps43
  go_wp2_with (first
   | (go_at_call 72; refine (HL.out _).mono ?_; rintro e w' ⟨rfl, rfl⟩)
   | (go_at_call 73; refine (HF.out _).mono ?_; rintro e w' ⟨rfl, rfl⟩))
  go_ret
  exact ⟨ret_bool (by simp), rfl⟩
def GivesB (g : Nat) (lb : Array Value) (p : UInt8 → Bool) (w : World) : Prop :=
 ∀ (W : World) (b : UInt8), Below w.heap.size w W → Calls Tryz.prog g (#[.int .u8 b.toNat] ++ lb) W fun e W' => e = .returned (.bool (p b)) ∧ Below W.heap.size W W'
theorem run_next {p : UInt8 → Bool} : ∀ {l : Lx.Bs} {k : Nat} (h : k < l.length), k ≤ Lx.run p l → (p l[k] = true → k + 1 ≤ Lx.run p l) ∧ (p l[k] = false → Lx.run p l = k)
 | b :: r, 0, h, _ => by
  rw [Lx.run_cons]
  constructor
  ·intro h; simp only [List.getElem_cons_zero] at h; rw [if_pos h]; omega
  ·intro h; simp only [List.getElem_cons_zero] at h; rw [if_neg (by rw [h]; simp)]
 | b :: r, k + 1, h, hk => by
  rw [Lx.run_cons] at hk ⊢
  by_cases hb : p b = true
  ·rw [if_pos hb] at hk ⊢
   have := run_next (p := p) (l := r) (k := k) (by simpa using h) (by omega)
   simp only [List.getElem_cons_succ]
   exact ⟨fun h => by have := this.1 h; omega, fun h => by have := this.2 h; omega⟩
  ·rw [if_neg hb] at hk; omega
set_option maxHeartbeats 1000000 in
theorem run_any (s : ByteArray) (g : Nat) (lb : Array Value) (p : UInt8 → Bool) (w : World) (hs : s.size ≤ maxLen) (H : GivesB g lb p w) (eg : ∀ args w, (callFunc g args).run Tryz.prog w = .ok (.enter g args) w) :
  Calls Tryz.prog 39 #[.string s, .func (.func g) #[] lb] w fun e w' => e = .returned (.int .i64 (Lx.run p s.data.toList : Nat)) ∧ Below w.heap.size w w' := by
 unfold maxLen at hs
 have HG := Yq H
 clear H
 obtain ⟨n, hn⟩ : ∃ n, n = Lx.run p s.data.toList := ⟨_, rfl⟩
 have Hl := Yq (hn ▸ Lx.run_le p s.data.toList : n ≤ s.data.toList.length)
 have Hn := Yq hn
 rw [← hn]
 clear hn
 go_enter Tryz.func39, Tryz.ntmps39
 go_wp2
 go_loopw [5] (fun i wr => ∃ k : Nat, k ≤ n ∧ i = .int .i64 k ∧ Below w.heap.size w wr) (fun i _ => s.size - (intOf i).toNat)
 case atStart => exact ⟨0, Nat.zero_le _, rfl, Below.refl _ _⟩
 case round =>
  obtain ⟨k, hk, rfl, hb⟩ := hrel
  by_cases hlt : k < s.size
  ·have hkl : k < s.data.toList.length := by rw [len_data]; exact hlt
   have hnx := run_next hkl (Hn.out ▸ hk)
   have hbyte : s[k] = s.data.toList[k] := rfl
   rw [← hbyte, ← Hn.out] at hnx
   have hG := HG.out wr s[k] hb
   clear hbyte
   cases hp : p s[k]
   ·have Hk := Yq (hnx.2 hp)
    rw [hp] at hG
    clear hnx hp
    have HG' := Yq hG
    clear hG
    go_wp2_with (go_at_fn g; refine HG'.out.mono ?_; rintro e w1 ⟨rfl, hb1⟩)
    go_ret
    exact ⟨ret_int (by rw [Hk.out]), hb.trans (hb1.mono hb.size)⟩
   ·have Hk := hnx.1 hp
    rw [hp] at hG
    clear hnx hp
    have HG' := Yq hG
    clear hG
    go_wp2_with (go_at_fn g; refine HG'.out.mono ?_; rintro e w1 ⟨rfl, hb1⟩)
    go_roundw
    case rel => exact ⟨k + 1, by omega, by go_num, hb.trans (hb1.mono hb.size)⟩
    case measure => simp [intOf]; omega
  ·have hkn : k = n := by have := Hl.out; rw [len_data] at this; omega
   subst hkn
   go_wp2
   go_ret
   exact ⟨rfl, hb⟩
def errV (a : Addr) : Value := .iface 216 (.pointer (some a))
structure Vars (A : Nat → Addr) (w : World) : Prop where
 range : w.cell? ⟨4, 0, none⟩ = some (errV (A 0))
 long : w.cell? ⟨0, 0, none⟩ = some (errV (A 2))
 form : w.cell? ⟨1, 0, none⟩ = some (errV (A 8))
 conv : ∃ te pe, w.cell? ⟨22, 0, none⟩ = some (.iface te pe)
 most : ∃ m, w.cell? ⟨20, 0, none⟩ = some (.int .i64 m)
theorem Vars.keep {A : Nat → Addr} {w w' : World} (h : Vars A w) {B : Nat} (hb : Below B w w') (hB : 4 < B ∧ 0 < B ∧ 1 < B ∧ 22 < B ∧ 20 < B) : Vars A w' :=
 ⟨(hb.cell (p := ⟨_, _, _⟩) hB.1).trans h.range, (hb.cell (p := ⟨_, _, _⟩) hB.2.1).trans h.long, (hb.cell (p := ⟨_, _, _⟩) hB.2.2.1).trans h.form,
  by obtain ⟨a, b, e⟩ := h.conv; exact ⟨a, b, (hb.cell (p := ⟨_, _, _⟩) hB.2.2.2.1).trans e⟩, by obtain ⟨m, e⟩ := h.most; exact ⟨m, (hb.cell (p := ⟨_, _, _⟩) hB.2.2.2.2).trans e⟩⟩
theorem Vars.lt {A : Nat → Addr} {w : World} (h : Vars A w) : 4 < w.heap.size ∧ 0 < w.heap.size ∧ 1 < w.heap.size ∧ 22 < w.heap.size ∧ 20 < w.heap.size :=
 ⟨World.block_lt_of_cell? w _ h.range, World.block_lt_of_cell? w _ h.long, World.block_lt_of_cell? w _ h.form, by obtain ⟨a, b, e⟩ := h.conv; exact World.block_lt_of_cell? w _ e, by obtain ⟨m, e⟩ := h.most; exact World.block_lt_of_cell? w _ e⟩
theorem Vars.below {A : Nat → Addr} {w w' : World} (h : Vars A w) (hb : Below w.heap.size w w') : Vars A w' := h.keep hb h.lt
/- the library's words and ours -/
theorem idx1_index (c : UInt8) : ∀ (l : Lx.Bs), Lib.indexByte l c = match Lx.idx1 c l with | some n => (n : Int) | none => -1
 | [] => rfl
 | b :: r => by
  rw [Lib.indexByte, Lx.idx1, idx1_index c r]
  by_cases h : b = c
  ·subst h; simp
  ·rw [if_neg (by simpa using h), if_neg h]
   cases Lx.idx1 c r with
   | none => rfl
   | some n =>
    have : ¬ (((n : Int) == -1) = true) := by rw [beq_iff_eq]; omega
    simp only [Option.map_some]
    rw [if_neg this]; push_cast; rfl
theorem Blk.setCell {w : World} {g o : Nat} {cs : List Value} (h : Blk w g cs) (v : Value) : Blk (w.setCell ⟨g, o, none⟩ v) g (cs.set o v) := by
 obtain ⟨t, h⟩ := h
 rw [setCell_eq_setRow w g o _ t _ v h]
 have e : cs.toArray.setIfInBounds o v = (cs.set o v).toArray := by simp
 rw [e]
 exact ⟨t, setRow_heap w g _ _ t _ h⟩
def scanC (s : ByteArray) (p : Nat × Nat) : List Value := [.string s, .int .i64 (p.1 : Nat), .int .i64 (p.2 : Nat)]
def rest (s : ByteArray) (n : Nat) : ByteArray := ⟨(s.data.toList.drop n).toArray⟩
theorem rest_list (s : ByteArray) (n : Nat) : (rest s n).data.toList = s.data.toList.drop n := rfl
theorem rest_size (s : ByteArray) (n : Nat) : (rest s n).size = s.size - n := by
 show (rest s n).data.size = _
 rw [← Array.length_toList, rest_list, List.length_drop, len_data]
theorem extract_rest (s : ByteArray) (n : Nat) : s.extract n s.size = rest s n := by
 apply ByteArray.ext
 apply Array.ext'
 rw [rest_list]
 simp only [ByteArray.data_extract, Array.toList_extract, List.extract_eq_take_drop]
 rw [List.take_of_length_le (by simp)]
def PassPost (w : World) (B : Nat) (s : ByteArray) (p : Nat × Nat) (e : Ending) (w' : World) : Prop :=
 e = .returned (.tuple #[]) ∧ Blk w' B (scanC s p) ∧ w.grownBy w' (some B)
set_option maxHeartbeats 2000000 in
theorem pass_any (s : ByteArray) (p : Nat × Nat) (n B : Nat) (w : World) (hb : Blk w B (scanC s p)) (hn : n ≤ s.size) (hs : s.size ≤ 100000) (h1 : p.1 ≤ 100000) (h2 : p.2 ≤ 100000) :
  Calls Tryz.prog 22 #[.pointer (some ⟨B, 0, none⟩), .int .i64 n] w (PassPost w B (rest s n) (Lx.adv p (s.data.toList.take n))) := by
 obtain ⟨l, hl⟩ : ∃ l, l = s.data.toList := ⟨_, rfl⟩
 have Hl := Yq hl
 have Hll := Yq (show l.length = s.size by rw [hl, len_data])
 rw [← hl]
 clear hl
 have Hb := Yq hb
 clear hb
 obtain ⟨p1, p2⟩ := p
 simp only at h1 h2
 go_enter Tryz.func22, Tryz.ntmps22
 go_wp2
 go_loopw [4, 6] (fun _ i wr => ∃ k : Nat, k ≤ n ∧ i = .int .i64 k ∧ Blk wr B (scanC s (Lx.adv (p1, p2) (l.take k))) ∧ w.grownBy wr (some B)) (fun _ i _ => n - (intOf i).toNat)
 case atStart => exact ⟨0, Nat.zero_le _, rfl, by simpa [Lx.adv] using Hb.out, World.grownBy.refl _ _⟩
 case round =>
  obtain ⟨k, hk, rfl, hB, hg⟩ := hrel
  obtain ⟨q, hq⟩ : ∃ q, q = Lx.adv (p1, p2) (l.take k) := ⟨_, rfl⟩
  have hadv := Lx.adv_le (p1, p2) (l.take k)
  rw [← hq] at hB hadv
  have Hq := Yq hq
  clear hq
  obtain ⟨q1, q2⟩ := q
  simp only [List.length_take] at hadv
  obtain ⟨hq1, hq2⟩ := hadv
  have hc0 : wr.cell? ⟨B, 0, none⟩ = some (.string s) := hB.cell (o := 0) rfl
  have hc1 : wr.cell? ⟨B, 1, none⟩ = some (.int .i64 q1) := hB.cell (o := 1) rfl
  have hc2 : wr.cell? ⟨B, 2, none⟩ = some (.int .i64 q2) := hB.cell (o := 2) rfl
  have hf0 := hB.frozen 0
  have hf1 := hB.frozen 1
  have hf2 := hB.frozen 2
  have HB := Yq hB
  have Hg := Yq hg
  clear hB hg
  by_cases hlt : k < n
  ·have hks : k < s.size := by omega
   have hkl : k < l.length := by rw [Hll.out]; exact hks
   have hnext := Lx.adv_take_succ (p1, p2) l hkl
   rw [← Hq.out] at hnext
   have hbyte : s[k] = l[k] := by have := Hl.out; subst this; rfl
   rw [← hbyte] at hnext
   by_cases h10 : s[k] = 10
   ·rw [if_pos h10] at hnext
    have Hnext := Yq hnext
    have h10' : ((s[k].toNat : Int) == 10) = true := by rw [h10]; rfl
    clear hnext h10 hbyte
    go_wp2
    go_roundw
    case rel => 
     refine ⟨k + 1, by omega, by go_num, ?_, ?_⟩
     ·rw [Hnext.out]
      exact ((HB.out.setCell _).setCell _).setCell _
     ·exact ((Hg.out.trans (grown_setCell _ _ _)).trans (grown_setCell _ _ _)).trans (grown_setCell _ _ _)
    case measure => simp [intOf]; omega
   ·rw [if_neg h10] at hnext
    have Hnext := Yq hnext
    have h10' : ((s[k].toNat : Int) == 10) = false := by
     rw [beq_eq_false_iff_ne]; intro e; exact h10 (UInt8.toNat_inj.1 (by show s[k].toNat = 10; omega))
    clear hnext h10 hbyte
    go_wp2
    go_roundw
    case rel =>
     refine ⟨k + 1, by omega, by go_num, ?_, ?_⟩
     ·rw [Hnext.out]
      exact (HB.out.setCell _)
     ·exact (Hg.out.trans (grown_setCell _ _ _))
    case measure => simp [intOf]; omega
  ·have hkn : k = n := by omega
   subst hkn
   go_wp2
   go_end0
   refine ⟨rfl, ?_, Hg.out.trans (grown_setCell _ _ _)⟩
   have h := HB.out.setCell (o := 0) (.string (s.extract k s.size))
   rw [extract_rest] at h ⊢
   rw [← Hq.out]
   exact h
theorem rest_rest (s : ByteArray) (a b : Nat) : rest (rest s a) b = rest s (a + b) := by
 apply ByteArray.ext
 apply Array.ext'
 rw [rest_list, rest_list, rest_list, List.drop_drop]
theorem pass_int (s : ByteArray) (p : Nat × Nat) (n : Nat) (k : Int) (B : Nat) (w : World) (hb : Blk w B (scanC s p)) (hk : k = n) (hn : n ≤ s.size) (hs : s.size ≤ 100000) (h1 : p.1 ≤ 100000) (h2 : p.2 ≤ 100000) :
  Calls Tryz.prog 22 #[.pointer (some ⟨B, 0, none⟩), .int .i64 k] w (PassPost w B (rest s n) (Lx.adv p (s.data.toList.take n))) := by
 subst hk; exact pass_any s p n B w hb hn hs h1 h2
def rem1 (l : Lx.Bs) : Option (Option Nat) :=
 if l.take 2 = [47, 47] then some (some (Lx.run (· != 10) l))
 else if l.take 2 = [47, 42] then some ((Lx.idx2 (l.drop 2)).map (· + 4))
 else none
theorem gap1_rem (l : Lx.Bs) (h : Lx.run Lx.isGap l = 0) : Lx.gap1 l = rem1 l := by
 unfold Lx.gap1 rem1; rw [if_neg (by omega)]
theorem prefix_take (a b : UInt8) (l : Lx.Bs) : Lib.hasPrefix l [a, b] = decide (l.take 2 = [a, b]) := by
 unfold Lib.hasPrefix
 rw [Bool.eq_iff_iff, List.isPrefixOf_iff_prefix, List.prefix_iff_eq_take, decide_eq_true_iff]
 constructor <;> intro h <;> exact h.symm
theorem byte_run : ∀ (l : Lx.Bs), (Lib.indexByte l 10 < 0 ∧ Lx.run (· != 10) l = l.length) ∨ Lib.indexByte l 10 = (Lx.run (· != 10) l : Nat)
 | [] => .inl ⟨by decide, rfl⟩
 | b :: r => by
  have ih := byte_run r
  rw [Lib.indexByte, Lx.run_cons]
  by_cases h : b = 10
  ·subst h; right; simp
  ·have hn : ¬ ((b == 10) = true) := by rw [beq_iff_eq]; exact h
   have hp : (b != 10) = true := by rw [bne_iff_ne]; exact h
   rw [if_neg hn, if_pos hp]
   rcases ih with ⟨h1, h2⟩ | h1
   ·left
    have := Lib.indexByte_ge r 10
    have e : Lib.indexByte r 10 = -1 := by omega
    rw [e, h2]; simp
   ·right
    rw [h1, if_neg (by rw [beq_iff_eq]; omega)]; push_cast; rfl
theorem idx2_index : ∀ (l : Lx.Bs), Lib.index l [42, 47] = match Lx.idx2 l with | some n => (n : Int) | none => -1
 | [] => rfl
 | b :: r => by
  rw [Lib.index, Lx.idx2, idx2_index r]
  have e : ([42, 47] : Lx.Bs).isPrefixOf (b :: r) = true ↔ (b = 42 ∧ r.head? = some 47) := by
   rw [List.isPrefixOf_iff_prefix, List.cons_prefix_cons]
   refine and_congr ⟨fun h => h.symm, fun h => h.symm⟩ ?_
   cases r with
   | nil => simp
   | cons c q =>
    rw [List.cons_prefix_cons, List.head?_cons, Option.some.injEq]
    exact ⟨fun h => h.1.symm, fun h => ⟨h.symm, List.nil_prefix⟩⟩
  by_cases h : b = 42 ∧ r.head? = some 47
  ·rw [if_pos (e.2 h), if_pos h]; rfl
  ·rw [if_neg (fun h2 => h (e.1 h2)), if_neg h]
   cases Lx.idx2 r with
   | none => rfl
   | some n =>
    have : ¬ (((n : Int) == -1) = true) := by rw [beq_iff_eq]; omega
    simp only [Option.map_some]
    rw [if_neg this]; push_cast; rfl
theorem idxbyte_any (s : ByteArray) (b : UInt8) (w : World) : Calls Tryz.prog 41 #[.string s, .int .u8 b.toNat] w fun e w' => e = .returned (.int .i64 (Lib.indexByte s.data.toList b)) ∧ w = w' :=
 (Tryz.strings_IndexByte s b.toNat w).mono fun e w' h => by
  have hb : ((b.toNat : Int)).toNat.toUInt8 = b := by simp
  rw [hb] at h; exact ⟨h.1, h.2.symm⟩
theorem hasprefix_any (s : ByteArray) (a b : UInt8) (w : World) : Calls Tryz.prog 70 #[.string s, .string ⟨#[a, b]⟩] w fun e w' => e = .returned (.bool (decide (s.data.toList.take 2 = [a, b]))) ∧ w = w' :=
 (Tryz.strings_HasPrefix s ⟨#[a, b]⟩ w).mono fun e w' h => ⟨by rw [← prefix_take]; exact h.1, h.2.symm⟩
theorem take2_size {s : ByteArray} {a b : UInt8} (h : s.data.toList.take 2 = [a, b]) : 2 ≤ s.size := by
 have := congrArg List.length h
 rw [List.length_take, len_data] at this
 simp at this; omega
def RemPost (w : World) (B : Nat) (s : ByteArray) (p : Nat × Nat) (e : Ending) (w' : World) : Prop :=
 match rem1 s.data.toList with
 | none => e = .returned (.tuple #[.bool false, .bool true]) ∧ w = w'
 | some none => e = .returned (.tuple #[.bool false, .bool false]) ∧ w = w'
 | some (some n) => e = .returned (.tuple #[.bool true, .bool true]) ∧ Blk w' B (scanC (rest s n) (Lx.adv p (s.data.toList.take n))) ∧ w.grownBy w' (some B)
set_option maxHeartbeats 2000000 in
theorem remark_any (A : Nat → Addr) (s : ByteArray) (p : Nat × Nat) (B : Nat) (w : World) (hv : Vars A w) (hb : Blk w B (scanC s p)) (hs : s.size ≤ 100000) (h1 : p.1 ≤ 100000) (h2 : p.2 ≤ 100000) :
  Calls Tryz.prog 42 #[.pointer (some ⟨B, 0, none⟩)] w (RemPost w B s p) := by
 have hc0 : w.cell? ⟨B, 0, none⟩ = some (.string s) := hb.cell (o := 0) rfl
 have hnl : ((10 : UInt8).toNat : Int) = 10 := rfl
 have HX := Yq (fun (w0 : World) => idxbyte_any s 10 w0)
 rw [hnl] at HX
 have HP := Yq (fun (n : Nat) (k : Int) (hk : k = n) (hn : n ≤ s.size) => pass_int s p n k B w hb hk hn hs h1 h2)
 obtain ⟨m0, hm0⟩ := hv.most
 have Hm0 := Yq hm0
 clear hb hv hm0 hnl
 unfold RemPost
 by_cases h47 : s.data.toList.take 2 = [47, 47]
 ·have e : rem1 s.data.toList = some (some (Lx.run (· != 10) s.data.toList)) := by unfold rem1; rw [if_pos h47]
  rw [e]
  have H1 : ∀ w0, Calls Tryz.prog 70 #[.string s, .string ⟨#[47, 47]⟩] w0 fun e w' => e = .returned (.bool true) ∧ w0 = w' := fun w0 => by
   have := hasprefix_any s 47 47 w0; rw [decide_eq_true h47] at this; exact this
  have HA := Yq H1
  have hle := Lx.run_le (· != 10) s.data.toList
  rw [len_data] at hle
  have hcase := byte_run s.data.toList
  rw [len_data] at hcase
  simp only
  obtain ⟨n, hn⟩ : ∃ n, n = Lx.run (· != 10) s.data.toList := ⟨_, rfl⟩
  obtain ⟨x, hx⟩ : ∃ x, x = Lib.indexByte s.data.toList 10 := ⟨_, rfl⟩
  rw [← hn] at hle hcase ⊢
  rw [← hx] at hcase HX
  clear H1 e h47 hn hx
  rcases hcase with ⟨hx0, hxn⟩ | hxn
  ·have Hxn := Yq hxn
   clear hxn
   go_enter Tryz.func42, Tryz.ntmps42
   go_wp2_with (first
    | (go_at_call 70; (with_reducible refine (HA.out _).mono ?_); rintro e w' ⟨rfl, rfl⟩)
    | (go_at_call 41; (with_reducible refine (HX.out _).mono ?_); rintro e w' ⟨rfl, rfl⟩)
    | (go_at_call 22; (with_reducible refine (HP.out n _ (by rw [Hxn.out]) hle).mono ?_); rintro e w' ⟨rfl, hB, hg⟩))
   go_ret2
   exact ⟨rfl, hB, hg⟩
  ·have Hxn := Yq hxn
   have hx0 : 0 ≤ x := by omega
   clear hxn
   go_enter Tryz.func42, Tryz.ntmps42
   go_wp2_with (first
    | (go_at_call 70; (with_reducible refine (HA.out _).mono ?_); rintro e w' ⟨rfl, rfl⟩)
    | (go_at_call 41; (with_reducible refine (HX.out _).mono ?_); rintro e w' ⟨rfl, rfl⟩)
    | (go_at_call 22; (with_reducible refine (HP.out n _ (by rw [Hxn.out]) hle).mono ?_); rintro e w' ⟨rfl, hB, hg⟩))
   go_ret2
   exact ⟨rfl, hB, hg⟩
 ·have H1 : ∀ w0, Calls Tryz.prog 70 #[.string s, .string ⟨#[47, 47]⟩] w0 fun e w' => e = .returned (.bool false) ∧ w0 = w' := fun w0 => by
   have := hasprefix_any s 47 47 w0; rw [decide_eq_false h47] at this; exact this
  have HA := Yq H1
  by_cases h42 : s.data.toList.take 2 = [47, 42]
  ·have e : rem1 s.data.toList = some ((Lx.idx2 (s.data.toList.drop 2)).map (· + 4)) := by unfold rem1; rw [if_neg h47, if_pos h42]
   rw [e]
   have H2 : ∀ w0, Calls Tryz.prog 70 #[.string s, .string ⟨#[47, 42]⟩] w0 fun e w' => e = .returned (.bool true) ∧ w0 = w' := fun w0 => by
    have := hasprefix_any s 47 42 w0; rw [decide_eq_true h42] at this; exact this
   have HB := Yq H2
   have hs2 := take2_size h42
   have H3 : Calls Tryz.prog 71 #[.string (s.extract 2 s.size), .string ⟨#[42, 47]⟩] w fun e w' => e = .returned (.int .i64 (match Lx.idx2 (s.data.toList.drop 2) with | some n => (n : Int) | none => -1)) ∧ w = w' :=
    (Tryz.strings_Index (s.extract 2 s.size) ⟨#[42, 47]⟩ m0 w (by rw [extract_rest, rest_size]; omega) Hm0.out).mono fun e w' h => ⟨by
     rw [← idx2_index, ← rest_list, ← extract_rest]; exact h.1, h.2.symm⟩
   have HI := Yq H3
   have hlt : ∀ n, Lx.idx2 (s.data.toList.drop 2) = some n → n + 4 ≤ s.size := fun n hn => by
    have := Lx.idx2_lt hn
    rw [List.length_drop, len_data] at this; omega
   clear H1 H2 H3 e h47 h42
   cases hi : Lx.idx2 (s.data.toList.drop 2) with
   | none =>
    rw [hi] at HI
    simp only [Option.map_none]
    clear hi hlt
    go_enter Tryz.func42, Tryz.ntmps42
    go_wp2_with fail
    refine (HA.out _).mono ?_
    rintro e w' ⟨rfl, rfl⟩
    go_wp2_with fail
    refine (HB.out _).mono ?_
    rintro e w' ⟨rfl, rfl⟩
    go_wp2_with fail
    refine HI.out.mono ?_
    rintro e w' ⟨rfl, rfl⟩
    go_wp2_with fail
    go_ret2
    exact ⟨rfl, rfl⟩
   | some n =>
    have hn := hlt n hi
    rw [hi] at HI
    simp only [Option.map_some]
    clear hi hlt
    go_enter Tryz.func42, Tryz.ntmps42
    go_wp2_with fail
    refine (HA.out _).mono ?_
    rintro e w' ⟨rfl, rfl⟩
    go_wp2_with fail
    refine (HB.out _).mono ?_
    rintro e w' ⟨rfl, rfl⟩
    go_wp2_with fail
    refine HI.out.mono ?_
    rintro e w' ⟨rfl, rfl⟩
    go_wp2_with fail
    refine (HP.out (n + 4) _ (by push_cast; omega) hn).mono ?_
    rintro e w' ⟨rfl, hB, hg⟩
    go_wp2_with fail
    go_ret2
    exact ⟨rfl, hB, hg⟩
  ·have e : rem1 s.data.toList = none := by unfold rem1; rw [if_neg h47, if_neg h42]
   rw [e]
   have H2 : ∀ w0, Calls Tryz.prog 70 #[.string s, .string ⟨#[47, 42]⟩] w0 fun e w' => e = .returned (.bool false) ∧ w0 = w' := fun w0 => by
    have := hasprefix_any s 47 42 w0; rw [decide_eq_false h42] at this; exact this
   have HB := Yq H2
   clear H1 H2 e h47 h42
   simp only
   go_enter Tryz.func42, Tryz.ntmps42
   go_wp2_with fail
   refine (HA.out _).mono ?_
   rintro e w' ⟨rfl, rfl⟩
   go_wp2_with fail
   refine (HB.out _).mono ?_
   rintro e w' ⟨rfl, rfl⟩
   go_wp2_with fail
   go_ret2
   exact ⟨rfl, rfl⟩
theorem isgap_mem (b : UInt8) : Lx.isGap b = ([32, 9, 13, 10] : Lx.Bs).contains b := by
 unfold Lx.isGap; simp only [List.contains_cons, List.contains_nil, Bool.or_false, Bool.or_assoc]
set_option maxHeartbeats 1000000 in
theorem gapf_any (b : UInt8) (w : World) : Calls Tryz.prog 40 #[.int .u8 b.toNat] w fun e w' => e = .returned (.bool (Lx.isGap b)) ∧ w = w' := by
 have hx := fun w0 => idxbyte_any ⟨#[32, 9, 13, 10]⟩ b w0
 rw [isgap_mem, Lib.contains_iff_indexByte]
 have e : (⟨#[32, 9, 13, 10]⟩ : ByteArray).data.toList = [32, 9, 13, 10] := rfl
 rw [e] at hx
 generalize Lib.indexByte [32, 9, 13, 10] b = x at *
 have HX := Yq hx
 clear hx e
 go_enter Tryz.func40, Tryz.ntmps40
 go_wp2_with (go_at_call 41; (with_reducible refine (HX.out _).mono ?_); rintro e w' ⟨rfl, rfl⟩)
 go_ret
 exact ⟨rfl, rfl⟩
theorem gapf_gives (w : World) : GivesB 40 #[] Lx.isGap w := fun W b _ => (gapf_any b W).mono fun e w' h => ⟨h.1, h.2 ▸ Below.refl _ _⟩
theorem gapf_enters : ∀ args w, (callFunc 40 args).run Tryz.prog w = .ok (.enter 40 args) w := enters_of Tryz.func40 (by kernel_rfl) rfl
theorem run_drop (l : Lx.Bs) : Lx.run Lx.isGap (l.drop (Lx.run Lx.isGap l)) = 0 := by
 induction l with
 | nil => rfl
 | cons b r ih =>
  rw [Lx.run_cons]
  by_cases h : Lx.isGap b = true
  ·rw [if_pos h, List.drop_succ_cons]; exact ih
  ·rw [if_neg h, List.drop_zero, Lx.run_cons, if_neg h]
theorem rem1_le {l : Lx.Bs} {n : Nat} (h : rem1 l = some (some n)) : 0 < n ∧ n ≤ l.length := by
 unfold rem1 at h
 split at h
 ·rename_i h2
  cases h
  refine ⟨?_, Lx.run_le _ _⟩
  match l, h2 with
  | a :: b :: r, h2 =>
   simp only [List.take_succ_cons, List.take_zero, List.cons.injEq, and_true] at h2
   rw [Lx.run_cons, h2.1]; simp
 ·split at h
  ·simp only [Option.some.injEq, Option.map_eq_some_iff] at h
   obtain ⟨m, hm, rfl⟩ := h
   have := Lx.idx2_lt hm
   rw [List.length_drop] at this
   omega
  ·cases h
theorem gap_round (l : Lx.Bs) : let n := Lx.run Lx.isGap l
  (rem1 (l.drop n) = none → (n = 0 → Lx.gapN l = (0, true)) ∧ Lx.gapN l = ((Lx.gapN (l.drop n)).1 + n, (Lx.gapN (l.drop n)).2)) ∧
  (rem1 (l.drop n) = some none → Lx.gapN l = (n, false)) ∧
  (∀ m, rem1 (l.drop n) = some (some m) → Lx.gapN l = ((Lx.gapN (l.drop (n + m))).1 + (n + m), (Lx.gapN (l.drop (n + m))).2)) := by
 intro n
 have h1 : Lx.gap1 (l.drop n) = rem1 (l.drop n) := gap1_rem _ (run_drop l)
 have hstep : Lx.gapN l = ((Lx.gapN (l.drop n)).1 + n, (Lx.gapN (l.drop n)).2) := by
  by_cases h0 : 0 < n
  ·exact Lx.gapN_some (by unfold Lx.gap1; rw [if_pos h0])
  ·have : n = 0 := by omega
   rw [this]; simp
 refine ⟨fun h => ⟨fun h0 => ?_, hstep⟩, fun h => ?_, fun m h => ?_⟩
 ·rw [hstep, Lx.gapN_none (h1.trans h), h0]
 ·rw [hstep, Lx.gapN_bad (h1.trans h)]; simp
 ·rw [hstep, Lx.gapN_some (h1.trans h), List.drop_drop]
  simp only [Prod.mk.injEq, and_true]; omega
def GapPost (w : World) (B : Nat) (s : ByteArray) (p : Nat × Nat) (e : Ending) (w' : World) : Prop :=
 e = .returned (.bool (Lx.gapN s.data.toList).2) ∧ Blk w' B (scanC (rest s (Lx.gapN s.data.toList).1) (Lx.adv p (s.data.toList.take (Lx.gapN s.data.toList).1))) ∧ w.grownBy w' (some B)
def GapAt (w : World) (B : Nat) (s : ByteArray) (p : Nat × Nat) (k : Nat) (wr : World) : Prop :=
 k ≤ s.size ∧ Blk wr B (scanC (rest s k) (Lx.adv p (s.data.toList.take k))) ∧ w.grownBy wr (some B) ∧ Lx.gapN s.data.toList = ((Lx.gapN (s.data.toList.drop k)).1 + k, (Lx.gapN (s.data.toList.drop k)).2)
theorem adv_two (p : Nat × Nat) (l : Lx.Bs) (a b : Nat) : Lx.adv (Lx.adv p (l.take a)) ((l.drop a).take b) = Lx.adv p (l.take (a + b)) := by
 rw [← Lx.adv_append, List.take_add]
def GLt (B : Nat) : Prop := 4 < B ∧ 0 < B ∧ 1 < B ∧ 22 < B ∧ 20 < B
theorem Vars.grown {A : Nat → Addr} {w w' : World} (h : Vars A w) {B : Nat} (hg : w.grownBy w' (some B)) (hlt : GLt B) (hs : B ≤ w.heap.size) : Vars A w' :=
 h.keep (Below.grown (Below.refl B w) hg hs (fun k hk => by cases hk; exact Nat.le_refl _)) hlt
set_option maxHeartbeats 4000000 in
theorem gap_any (A : Nat → Addr) (s : ByteArray) (p : Nat × Nat) (B : Nat) (w : World) (hv : Vars A w) (hG : GLt B) (hb : Blk w B (scanC s p)) (hs : s.size ≤ 50000) (h1 : p.1 ≤ 40000) (h2 : p.2 ≤ 40000) :
  Calls Tryz.prog 20 #[.pointer (some ⟨B, 0, none⟩)] w (GapPost w B s p) := by
 have Hv := Yq hv
 have HG := Yq hG
 have Hb := Yq hb
 clear hv hG hb
 go_enter Tryz.func20, Tryz.ntmps20
 go_wp2
 go_loopg [3, 4, 5] s.size (fun g _ _ _ wx => ∃ k : Nat, k + g = s.size ∧ GapAt w B s p k wx)
 case atStart => exact ⟨0, by omega, Nat.zero_le _, Hb.out, World.grownBy.refl _ _, by simp⟩
 case round =>
  obtain ⟨k, hkg, hk, hB, hg, hgap⟩ := hrel
  have hvr : Vars A wr := Hv.out.grown hg HG.out (Nat.le_of_lt Hb.out.lt)
  obtain ⟨l, hl⟩ : ∃ l, l = s.data.toList := ⟨_, rfl⟩
  have hll : l.length = s.size := by rw [hl, len_data]
  obtain ⟨q, hq⟩ : ∃ q, q = Lx.adv p (l.take k) := ⟨_, rfl⟩
  have hadv := Lx.adv_le p (l.take k)
  rw [← hl, ← hq] at hB
  rw [← hl] at hgap
  rw [← hq, List.length_take] at hadv
  have hc0 : wr.cell? ⟨B, 0, none⟩ = some (.string (rest s k)) := hB.cell (o := 0) rfl
  have hround := gap_round (l.drop k)
  simp only at hround
  obtain ⟨n, hn⟩ : ∃ n, n = Lx.run Lx.isGap (l.drop k) := ⟨_, rfl⟩
  have hnl := Lx.run_le Lx.isGap (l.drop k)
  have HR := run_any (rest s k) _ #[] Lx.isGap wr (by rw [rest_size]; unfold maxLen; omega) (gapf_gives wr) gapf_enters
  rw [rest_list, ← hl, ← hn] at HR
  rw [← hn] at hround hnl
  rw [List.length_drop] at hnl
  have HR' := Yq HR
  have HB := Yq hB; have Hg := Yq hg; have Hgap := Yq hgap; have Hround := Yq hround; have Hq := Yq hq; have Hl := Yq hl; have Hll := Yq hll; have Hvr := Yq hvr
  clear HR hB hg hgap hround hn hq hl hvr
  go_wp2_with fail
  refine HR'.out.mono ?_
  rintro e w1 ⟨rfl, hb1⟩
  have HB1 := Yq (HB.out.below hb1 HB.out.lt)
  have Hg1 := Yq (Hg.out.trans (grown_of_below hb1 (some B)))
  have Hv1 := Yq (Hvr.out.below hb1)
  have Hlt1 := Yq (HB.out.below hb1 HB.out.lt).lt
  clear hb1 hc0
  go_wp2_with fail
  refine (pass_int (rest s k) q n _ B w1 HB1.out rfl (by rw [rest_size]; omega) (by rw [rest_size]; omega) (by omega) (by omega)).mono ?_
  rintro e w2 ⟨rfl, hB2, hg2⟩
  have HB2 := Yq hB2
  have Hg2 := Yq (Hg1.out.trans hg2)
  have Hv2 := Hv1.out.grown hg2 HG.out (Nat.le_of_lt Hlt1.out)
  have Hadv2 := Lx.adv_le q ((rest s k).data.toList.take n)
  rw [List.length_take, len_data] at Hadv2
  have hr2 : (rest (rest s k) n).size = s.size - k - n := by rw [rest_size, rest_size]
  have hr3 : (rest s k).size = s.size - k := rest_size s k
  have HM := Yq (remark_any A _ _ B w2 Hv2 HB2.out (by omega) (by omega) (by omega))
  have hlist : (rest (rest s k) n).data.toList = (l.drop k).drop n := by rw [rest_list, rest_list, Hl.out]
  unfold RemPost at HM
  rw [hlist] at HM
  clear hlist hg2 Hadv2 hB2 hr2 hr3 Hv2
  have Hrr : Hid (rest (rest s k) n = rest s (k + n)) := Yq (rest_rest s k n)
  have Hadv : Hid (Lx.adv q ((rest s k).data.toList.take n) = Lx.adv p (s.data.toList.take (k + n))) := Yq (by rw [rest_list, Hq.out, Hl.out, adv_two])
  cases hr : rem1 ((l.drop k).drop n) with
  | none =>
   rw [hr] at HM
   have hR := Hround.out.1 hr
   by_cases h0 : n = 0
   ·have hR0 := hR.1 h0
    have Hend := Yq (show Lx.gapN s.data.toList = (k + n, true) by rw [← Hl.out, Hgap.out, hR0, h0]; simp)
    have hn0 : ((n : Int) == 0) = true := by rw [h0]; rfl
    clear hR hR0 h0 hr Hround
    go_wp2_with fail
    refine HM.out.mono ?_
    rintro e w3 ⟨rfl, rfl⟩
    go_wp2_with fail
    go_ret
    refine ⟨by rw [Hend.out]; rfl, ?_, Hg2.out⟩
    rw [Hend.out, ← Hadv.out, ← Hrr.out]
    exact HB2.out
   ·have Hnx := Yq (show Lx.gapN s.data.toList = ((Lx.gapN (s.data.toList.drop (k + n))).1 + (k + n), (Lx.gapN (s.data.toList.drop (k + n))).2) by
     rw [← Hl.out, Hgap.out, hR.2, List.drop_drop]; simp only [Prod.mk.injEq, and_true]; omega)
    have hn0 : ((n : Int) == 0) = false := by rw [beq_eq_false_iff_ne]; omega
    clear hR hr Hround
    go_wp2_with fail
    refine HM.out.mono ?_
    rintro e w3 ⟨rfl, rfl⟩
    go_wp2_with fail
    go_roundg (s.size - (k + n))
    case measure => omega
    case rel =>
     refine ⟨k + n, by omega, by omega, ?_, Hg2.out, Hnx.out⟩
     rw [← Hadv.out, ← Hrr.out]
     exact HB2.out
  | some o =>
   cases o with
   | none =>
    rw [hr] at HM
    have Hend := Yq (show Lx.gapN s.data.toList = (k + n, false) by rw [← Hl.out, Hgap.out, Hround.out.2.1 hr]; simp only [Prod.mk.injEq, and_true]; omega)
    clear hr Hround
    go_wp2_with fail
    refine HM.out.mono ?_
    rintro e w3 ⟨rfl, rfl⟩
    go_wp2_with fail
    go_ret
    refine ⟨by rw [Hend.out]; rfl, ?_, Hg2.out⟩
    rw [Hend.out, ← Hadv.out, ← Hrr.out]
    exact HB2.out
   | some m =>
    rw [hr] at HM
    have hm := rem1_le hr
    rw [List.length_drop, List.length_drop] at hm
    have hll := Hll.out
    have Hnx := Yq (show Lx.gapN s.data.toList = ((Lx.gapN (s.data.toList.drop (k + (n + m)))).1 + (k + (n + m)), (Lx.gapN (s.data.toList.drop (k + (n + m)))).2) by
     rw [← Hl.out, Hgap.out, Hround.out.2.2 m hr, List.drop_drop]; simp only [Prod.mk.injEq, and_true]; omega)
    have Hrr3 : Hid (rest (rest (rest s k) n) m = rest s (k + (n + m))) := Yq (by rw [rest_rest, rest_rest])
    have Hadv3 : Hid (Lx.adv (Lx.adv q ((rest s k).data.toList.take n)) (((l.drop k).drop n).take m) = Lx.adv p (s.data.toList.take (k + (n + m)))) := Yq (by
     rw [Hadv.out, Hl.out, List.drop_drop, adv_two, Nat.add_assoc])
    rw [hll] at hm
    clear hr Hround hll
    go_wp2_with fail
    refine HM.out.mono ?_
    rintro e w3 ⟨rfl, hB3, hg3⟩
    have Hg3 := Yq (Hg2.out.trans hg3)
    have HB3 := Yq hB3
    clear hB3 hg3
    by_cases h0 : n = 0
    ·have hn0 : ((n : Int) == 0) = true := by rw [h0]; rfl
     clear h0
     go_wp2_with fail
     go_roundg (s.size - (k + (n + m)))
     case measure => omega
     case rel =>
      refine ⟨k + (n + m), by omega, by omega, ?_, Hg3.out, Hnx.out⟩
      rw [← Hadv3.out, ← Hrr3.out]
      exact HB3.out
    ·have hn0 : ((n : Int) == 0) = false := by rw [beq_eq_false_iff_ne]; omega
     go_wp2_with fail
     go_roundg (s.size - (k + (n + m)))
     case measure => omega
     case rel =>
      refine ⟨k + (n + m), by omega, by omega, ?_, Hg3.out, Hnx.out⟩
      rw [← Hadv3.out, ← Hrr3.out]
      exact HB3.out
end Go.Proofs.YtpcfdngnmigkfaaGreatDoor
