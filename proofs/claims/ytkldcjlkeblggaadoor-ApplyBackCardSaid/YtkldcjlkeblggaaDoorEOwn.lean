/- edit.own, walked: an edit without what its kind has. -/
import Derived.Test.YtkldcjlkeblggaaDoorMid
namespace Go.Proofs.YtkldcjlkeblggaaDoor
open Go.RowKit
open Val (V E cmp right noneV partB bareE eright v0)
set_option linter.unusedVariables false

/-- an edit without what its kind has -/
def Val.ownE : E → E
  | .mk k o n f r ro rn s ks => .mk k (if k = 1 then v0 else o) (if k = 1 then v0 else n) (if k = 2 then [] else f) (if k = 2 then false else r) (if k = 2 then ByteArray.empty else ro) (if k = 2 then ByteArray.empty else rn) (if k = 3 then [] else s) (if k = 4 then [] else ks)
def Val.bareAll : E → Bool
  | .mk k o n f r ro rn s ks => noneV o && (noneV n && (decide (f.length = 0) && (!r && (decide (ro.size + rn.size = 0) && (decide (s.length = 0) && decide (ks.length = 0))))))
theorem Val.bare_own (x : E) : Val.bareAll (Val.ownE x) = x.bare := by
  obtain ⟨k, o, n, f, r, ro, rn, s, ks⟩ := x
  unfold Val.ownE Val.bareAll Val.E.bare bareE
  by_cases h1 : k = 1
  · subst h1; simp [Val.noneV_v0]
  · by_cases h2 : k = 2
    · subst h2; simp
    · by_cases h3 : k = 3
      · subst h3; simp
      · by_cases h4 : k = 4
        · subst h4; simp
        · simp [h1, h2, h3, h4]

def z7 : List Value := [.int .i64 0, .int .u64 0, .string ⟨#[]⟩, .slice none 0 0, .string ⟨#[]⟩, .slice none 0 0, .slice none 0 0]
def RetE (w : World) (x : E) (e : Ending) (w' : World) : Prop := ∃ xc, e = .returned (.agg xc.toArray) ∧ ER (frag w') x xc ∧ Below w.heap.size w w'
theorem Ed21.len {e : List Value} (h : Ed21 e) : e.length = 21 := by
  obtain ⟨k, x, y, a1, n1, c1, b, t, r, a2, n2, c2, a3, n3, c3, ⟨_, _, _, _, _, _, _, _, _, _, _, _, _, rfl⟩, ⟨_, _, _, _, _, _, _, _, _, _, _, _, _, rfl⟩, rfl⟩ := h
  rfl
theorem Ed21.one {e : List Value} (h : Ed21 e) : ∀ u ∈ e, u.oneCell' = true := by
  obtain ⟨k, x, y, a1, n1, c1, b, t, r, a2, n2, c2, a3, n3, c3, ⟨_, _, _, _, _, _, _, _, _, _, _, _, _, rfl⟩, ⟨_, _, _, _, _, _, _, _, _, _, _, _, _, rfl⟩, rfl⟩ := h
  simp [Value.oneCell']
theorem z7_one : ∀ u ∈ z7, u.oneCell' = true := by simp [z7, Value.oneCell']

set_option maxRecDepth 100000 in
theorem wpList_buildV {ops : Array Oper} {rest : List Oper} {o : Oper} {a : Act} {w : World} {Q : Exit → Act → World → Prop} (hg : o.guard = none) (ho : o.op = .build 27 #[])
    (h : wpList Tryd.prog ops Q rest (a.put o.dst (.agg z7.toArray)) w) : wpList Tryd.prog ops Q (o :: rest) a w := by
  have hb : Tryd.prog.built 27 [] = some z7.toArray := by kernel_rfl
  have e : ((#[] : Array (Nat × Operand)).map (fun (i, x) => (i, a.eval x))).toList = [] := by simp
  refine wpList_build hg _ _ ho ?_ ?_
  · rw [e, hb]; rfl
  · rw [e, hb]; exact h

theorem patch_old {k : Value} {oc nc tl z : List Value} (ho : oc.length = 7) (hz : z.length = 7) : patch (k :: (oc ++ (nc ++ tl))) 1 z = k :: (z ++ (nc ++ tl)) :=
  patch_at (p := [k]) (q := oc) rfl (by rw [ho, hz])
theorem patch_new {k : Value} {oc nc tl z : List Value} (ho : oc.length = 7) (hn : nc.length = 7) (hz : z.length = 7) : patch (k :: (oc ++ (nc ++ tl))) 8 z = k :: (oc ++ (z ++ tl)) :=
  patch_at (p := k :: oc) (q := nc) (by simp [ho]) (by rw [hn, hz])
theorem patch_tail {k : Value} {oc nc tl z : List Value} {o : Nat} (ho : oc.length = 7) (hn : nc.length = 7) : patch (k :: (oc ++ (nc ++ tl))) (15 + o) z = k :: (oc ++ (nc ++ patch tl o z)) := by
  unfold patch
  have e : k :: (oc ++ (nc ++ tl)) = (k :: (oc ++ nc)) ++ tl := by simp
  have hl : (k :: (oc ++ nc)).length = 15 := by simp [ho, hn]
  rw [e, List.take_append, List.drop_append, List.take_of_length_le (by omega), List.drop_of_length_le (by omega), hl]
  simp only [List.cons_append, List.append_assoc, List.nil_append]
  congr 7
  · omega
  · omega

/-- the cells' facts that the walk asks for -/
structure Cells21 (xc : List Value) (k : Value) (oc nc : List Value) (fv rv rov rnv sv kv : Value) : Prop where
  eq : xc = k :: (oc ++ (nc ++ [fv, rv, rov, rnv, sv, kv]))
  lo : oc.length = 7
  ln : nc.length = 7
theorem Cells21.len {xc oc nc : List Value} {k fv rv rov rnv sv kv : Value} (h : Cells21 xc k oc nc fv rv rov rnv sv kv) : xc.length = 21 := by rw [h.eq]; simp [h.lo, h.ln]
theorem Cells21.c0 {xc oc nc : List Value} {k fv rv rov rnv sv kv : Value} (h : Cells21 xc k oc nc fv rv rov rnv sv kv) : xc[0]? = some k := by rw [h.eq]; rfl
theorem Cells21.tl {xc oc nc : List Value} {k fv rv rov rnv sv kv : Value} (h : Cells21 xc k oc nc fv rv rov rnv sv kv) (i : Nat) : xc[15 + i]? = [fv, rv, rov, rnv, sv, kv][i]? := by
  have e : xc = (k :: (oc ++ nc)) ++ [fv, rv, rov, rnv, sv, kv] := by rw [h.eq]; simp
  have hl : (k :: (oc ++ nc)).length = 15 := by simp [h.lo, h.ln]
  rw [e, List.getElem?_append_right (by omega), hl]; congr 1; omega

theorem patch_len7 {cs : List Value} {o : Nat} (h : cs.length = 21) (ho : o + 7 ≤ 21) : (patch cs o z7).length = 21 := by
  rw [patch_len (by rw [h]; exact ho), h]
theorem patch_one {cs vs : List Value} {o : Nat} (h : ∀ u ∈ cs, u.oneCell' = true) (h2 : ∀ u ∈ vs, u.oneCell' = true) : ∀ u ∈ patch cs o vs, u.oneCell' = true := by
  intro u hu
  unfold patch at hu
  rcases List.mem_append.1 hu with hu | hu
  · exact h u (List.mem_of_mem_take hu)
  · rcases List.mem_append.1 hu with hu | hu
    · exact h2 u hu
    · exact h u (List.mem_of_mem_drop hu)

set_option maxRecDepth 100000 in
set_option maxHeartbeats 1000000 in
theorem eown1 (xc : List Value) (w : World) (hl : xc.length = 21) (ho : ∀ u ∈ xc, u.oneCell' = true) (h0 : xc[0]? = some (.int .i64 1)) :
    Calls Tryd.prog 48 #[.agg xc.toArray] w fun e w' => e = .returned (.agg (patch (patch xc 1 z7) 8 z7).toArray) ∧ Below w.heap.size w w' := by
  have HL0 := Lib.hid hl
  have HL1 : Hid ((patch xc 1 z7).length = 21) := (patch_len (by rw [HL0.out]; decide)).trans HL0.out
  have HL2 : Hid ((patch (patch xc 1 z7) 8 z7).length = 21) := (patch_len (by rw [HL1.out]; decide)).trans HL1.out
  have H1 : Hid (∀ u ∈ (patch (patch xc 1 z7) 8 z7), u.oneCell' = true) := (patch_one (o := 8) (patch_one (o := 1) ho (by first | exact z7_one | simp [Value.oneCell'])) (by first | exact z7_one | simp [Value.oneCell']))
  clear ho hl
  go_enter Tryd.func48, Tryd.ntmps48
  go_wp2_with (first
    | (refine wpList_buildV rfl rfl ?_)
    | (refine wpList_load_first rfl 32 _ rfl rfl _ Tryd.underlying32 rfl ?_ ?_; (· exact infoE.trans (congrArg some HL2.out.symm)))
    | (refine wpList_store_new rfl 32 _ _ rfl _ rfl _ rfl (World.size_alloc _ _) ?_ ?_ ?_ ?_; (· exact infoE.trans (congrArg some HL2.out.symm)); (· exact HL2.out.symm); (· exact H1.out))
    | (refine wpList_store_first rfl _ _ _ rfl _ _ rfl rfl ?_ ?_ ?_ ?_; (· exact infoV); (· first | (exact Nat.le_trans (show _ ≤ 21 by decide) (Nat.le_of_eq HL0.out.symm)) | (exact Nat.le_trans (show _ ≤ 21 by decide) (Nat.le_of_eq HL1.out.symm))); (· exact z7_one)))
  refine bodyPost_ret (v := .agg (patch (patch xc 1 z7) 8 z7).toArray) ?_ rfl ⟨rfl, ((Below.refl _ _).alloc (Nat.le_refl _) _).alloc (by simp) _⟩
  refine results_blk rfl _ _ (w.heap.size + 1) _ ?_ ?_ _ Tryd.underlying32 rfl ?_
  · rfl
  · exact ⟨_, heap_alloc2_new _ _ _⟩
  · rw [HL2.out]; exact infoE

set_option maxRecDepth 100000 in
set_option maxHeartbeats 1000000 in
theorem eown2 (xc : List Value) (w : World) (hl : xc.length = 21) (ho : ∀ u ∈ xc, u.oneCell' = true) (h0 : xc[0]? = some (.int .i64 2)) :
    Calls Tryd.prog 48 #[.agg xc.toArray] w fun e w' => e = .returned (.agg (patch (patch (patch (patch xc 15 [.slice none 0 0]) 16 [.bool false]) 17 [.string ⟨#[]⟩]) 18 [.string ⟨#[]⟩]).toArray) ∧ Below w.heap.size w w' := by
  have HL0 := Lib.hid hl
  have HL1 : Hid ((patch xc 15 [.slice none 0 0]).length = 21) := (patch_len (by rw [HL0.out]; decide)).trans HL0.out
  have HL2 : Hid ((patch (patch xc 15 [.slice none 0 0]) 16 [.bool false]).length = 21) := (patch_len (by rw [HL1.out]; decide)).trans HL1.out
  have HL3 : Hid ((patch (patch (patch xc 15 [.slice none 0 0]) 16 [.bool false]) 17 [.string ⟨#[]⟩]).length = 21) := (patch_len (by rw [HL2.out]; decide)).trans HL2.out
  have HL4 : Hid ((patch (patch (patch (patch xc 15 [.slice none 0 0]) 16 [.bool false]) 17 [.string ⟨#[]⟩]) 18 [.string ⟨#[]⟩]).length = 21) := (patch_len (by rw [HL3.out]; decide)).trans HL3.out
  have H1 : Hid (∀ u ∈ (patch (patch (patch (patch xc 15 [.slice none 0 0]) 16 [.bool false]) 17 [.string ⟨#[]⟩]) 18 [.string ⟨#[]⟩]), u.oneCell' = true) := (patch_one (o := 18) (patch_one (o := 17) (patch_one (o := 16) (patch_one (o := 15) ho (by first | exact z7_one | simp [Value.oneCell'])) (by first | exact z7_one | simp [Value.oneCell'])) (by first | exact z7_one | simp [Value.oneCell'])) (by first | exact z7_one | simp [Value.oneCell']))
  clear ho hl
  go_enter Tryd.func48, Tryd.ntmps48
  go_wp2_with (first
    | (refine wpList_buildV rfl rfl ?_)
    | (refine wpList_load_first rfl 32 _ rfl rfl _ Tryd.underlying32 rfl ?_ ?_; (· exact infoE.trans (congrArg some HL4.out.symm)))
    | (refine wpList_store_new rfl 32 _ _ rfl _ rfl _ rfl (World.size_alloc _ _) ?_ ?_ ?_ ?_; (· exact infoE.trans (congrArg some HL4.out.symm)); (· exact HL4.out.symm); (· exact H1.out))
    | (refine wpList_store_first1 rfl _ _ _ rfl _ _ rfl rfl ?_ ?_ ?_ ?_; (· kernel_rfl); (· first | (exact Nat.le_trans (show _ ≤ 21 by decide) (Nat.le_of_eq HL0.out.symm)) | (exact Nat.le_trans (show _ ≤ 21 by decide) (Nat.le_of_eq HL1.out.symm)) | (exact Nat.le_trans (show _ ≤ 21 by decide) (Nat.le_of_eq HL2.out.symm)) | (exact Nat.le_trans (show _ ≤ 21 by decide) (Nat.le_of_eq HL3.out.symm))); (· rfl)))
  refine bodyPost_ret (v := .agg (patch (patch (patch (patch xc 15 [.slice none 0 0]) 16 [.bool false]) 17 [.string ⟨#[]⟩]) 18 [.string ⟨#[]⟩]).toArray) ?_ rfl ⟨rfl, ((Below.refl _ _).alloc (Nat.le_refl _) _).alloc (by simp) _⟩
  refine results_blk rfl _ _ (w.heap.size + 1) _ ?_ ?_ _ Tryd.underlying32 rfl ?_
  · rfl
  · exact ⟨_, heap_alloc2_new _ _ _⟩
  · rw [HL4.out]; exact infoE

set_option maxRecDepth 100000 in
set_option maxHeartbeats 1000000 in
theorem eown3 (xc : List Value) (w : World) (hl : xc.length = 21) (ho : ∀ u ∈ xc, u.oneCell' = true) (h0 : xc[0]? = some (.int .i64 3)) :
    Calls Tryd.prog 48 #[.agg xc.toArray] w fun e w' => e = .returned (.agg (patch xc 19 [.slice none 0 0]).toArray) ∧ Below w.heap.size w w' := by
  have HL0 := Lib.hid hl
  have HL1 : Hid ((patch xc 19 [.slice none 0 0]).length = 21) := (patch_len (by rw [HL0.out]; decide)).trans HL0.out
  have H1 : Hid (∀ u ∈ (patch xc 19 [.slice none 0 0]), u.oneCell' = true) := (patch_one (o := 19) ho (by first | exact z7_one | simp [Value.oneCell']))
  clear ho hl
  go_enter Tryd.func48, Tryd.ntmps48
  go_wp2_with (first
    | (refine wpList_buildV rfl rfl ?_)
    | (refine wpList_load_first rfl 32 _ rfl rfl _ Tryd.underlying32 rfl ?_ ?_; (· exact infoE.trans (congrArg some HL1.out.symm)))
    | (refine wpList_store_new rfl 32 _ _ rfl _ rfl _ rfl (World.size_alloc _ _) ?_ ?_ ?_ ?_; (· exact infoE.trans (congrArg some HL1.out.symm)); (· exact HL1.out.symm); (· exact H1.out))
    | (refine wpList_store_first1 rfl _ _ _ rfl _ _ rfl rfl ?_ ?_ ?_ ?_; (· kernel_rfl); (· first | (exact Nat.le_trans (show _ ≤ 21 by decide) (Nat.le_of_eq HL0.out.symm))); (· rfl)))
  refine bodyPost_ret (v := .agg (patch xc 19 [.slice none 0 0]).toArray) ?_ rfl ⟨rfl, ((Below.refl _ _).alloc (Nat.le_refl _) _).alloc (by simp) _⟩
  refine results_blk rfl _ _ (w.heap.size + 1) _ ?_ ?_ _ Tryd.underlying32 rfl ?_
  · rfl
  · exact ⟨_, heap_alloc2_new _ _ _⟩
  · rw [HL1.out]; exact infoE

set_option maxRecDepth 100000 in
set_option maxHeartbeats 1000000 in
theorem eown4 (xc : List Value) (w : World) (hl : xc.length = 21) (ho : ∀ u ∈ xc, u.oneCell' = true) (h0 : xc[0]? = some (.int .i64 4)) :
    Calls Tryd.prog 48 #[.agg xc.toArray] w fun e w' => e = .returned (.agg (patch xc 20 [.slice none 0 0]).toArray) ∧ Below w.heap.size w w' := by
  have HL0 := Lib.hid hl
  have HL1 : Hid ((patch xc 20 [.slice none 0 0]).length = 21) := (patch_len (by rw [HL0.out]; decide)).trans HL0.out
  have H1 : Hid (∀ u ∈ (patch xc 20 [.slice none 0 0]), u.oneCell' = true) := (patch_one (o := 20) ho (by first | exact z7_one | simp [Value.oneCell']))
  clear ho hl
  go_enter Tryd.func48, Tryd.ntmps48
  go_wp2_with (first
    | (refine wpList_buildV rfl rfl ?_)
    | (refine wpList_load_first rfl 32 _ rfl rfl _ Tryd.underlying32 rfl ?_ ?_; (· exact infoE.trans (congrArg some HL1.out.symm)))
    | (refine wpList_store_new rfl 32 _ _ rfl _ rfl _ rfl (World.size_alloc _ _) ?_ ?_ ?_ ?_; (· exact infoE.trans (congrArg some HL1.out.symm)); (· exact HL1.out.symm); (· exact H1.out))
    | (refine wpList_store_first1 rfl _ _ _ rfl _ _ rfl rfl ?_ ?_ ?_ ?_; (· kernel_rfl); (· first | (exact Nat.le_trans (show _ ≤ 21 by decide) (Nat.le_of_eq HL0.out.symm))); (· rfl)))
  refine bodyPost_ret (v := .agg (patch xc 20 [.slice none 0 0]).toArray) ?_ rfl ⟨rfl, ((Below.refl _ _).alloc (Nat.le_refl _) _).alloc (by simp) _⟩
  refine results_blk rfl _ _ (w.heap.size + 1) _ ?_ ?_ _ Tryd.underlying32 rfl ?_
  · rfl
  · exact ⟨_, heap_alloc2_new _ _ _⟩
  · rw [HL1.out]; exact infoE

set_option maxRecDepth 100000 in
set_option maxHeartbeats 1000000 in
theorem eown0 (k : Int) (xc : List Value) (w : World) (hl : xc.length = 21) (ho : ∀ u ∈ xc, u.oneCell' = true) (h0 : xc[0]? = some (.int .i64 k)) (h1 : (k == 1) = false) (h2 : (k == 2) = false) (h3 : (k == 3) = false) (h4 : (k == 4) = false) :
    Calls Tryd.prog 48 #[.agg xc.toArray] w fun e w' => e = .returned (.agg xc.toArray) ∧ Below w.heap.size w w' := by
  have HL0 := Lib.hid hl
  have H1 : Hid (∀ u ∈ xc, u.oneCell' = true) := ho
  clear ho hl
  go_enter Tryd.func48, Tryd.ntmps48
  go_wp2_with (first
    | (refine wpList_buildV rfl rfl ?_)
    | (refine wpList_load_first rfl 32 _ rfl rfl _ Tryd.underlying32 rfl ?_ ?_; (· exact infoE.trans (congrArg some HL0.out.symm)))
    | (refine wpList_store_new rfl 32 _ _ rfl _ rfl _ rfl (World.size_alloc _ _) ?_ ?_ ?_ ?_; (· exact infoE.trans (congrArg some HL0.out.symm)); (· exact HL0.out.symm); (· exact H1.out))
    | (refine wpList_store_first1 rfl _ _ _ rfl _ _ rfl rfl ?_ ?_ ?_ ?_; (· kernel_rfl); (· first | (exact Nat.le_trans (show _ ≤ 21 by decide) (Nat.le_of_eq HL0.out.symm))); (· rfl)))
  refine bodyPost_ret (v := .agg xc.toArray) ?_ rfl ⟨rfl, ((Below.refl _ _).alloc (Nat.le_refl _) _).alloc (by simp) _⟩
  refine results_blk rfl _ _ (w.heap.size + 1) _ ?_ ?_ _ Tryd.underlying32 rfl ?_
  · rfl
  · exact ⟨_, heap_alloc2_new _ _ _⟩
  · rw [HL0.out]; exact infoE

theorem eown_any (x : E) (xc : List Value) (w : World) (hx : ER (frag w) x xc) : Calls Tryd.prog 48 #[.agg xc.toArray] w (RetE w (Val.ownE x)) := by
  have hl := hx.shape.len
  have ho := hx.shape.one
  obtain ⟨k, o, n, f, r, ro, rn, s, ks⟩ := x
  rw [ER] at hx
  obtain ⟨oc, nc, fv, sv, kv, fe, se, ke, rfl, h2, ⟨h3, h4⟩, ⟨h5, h6, h7⟩, h8, h9, h10⟩ := hx
  have lo := h3.len
  have ln := h4.len
  have h0 : (Value.int .i64 k :: (oc ++ (nc ++ [fv, .bool r, .string ro, .string rn, sv, kv])))[0]? = some (.int .i64 k) := rfl
  have fin : ∀ w1, Below w.heap.size w w1 → RetE w (Val.ownE (.mk k o n f r ro rn s ks)) (.returned (.agg (Value.int .i64 k :: ((if k = 1 then z7 else oc) ++ ((if k = 1 then z7 else nc) ++ [if k = 2 then .slice none 0 0 else fv, if k = 2 then .bool false else .bool r, if k = 2 then .string ⟨#[]⟩ else .string ro, if k = 2 then .string ⟨#[]⟩ else .string rn, if k = 3 then .slice none 0 0 else sv, if k = 4 then .slice none 0 0 else kv]))).toArray)) w1 := by
    intro w1 hb
    have hle := below_le hb
    refine ⟨_, rfl, ?_, hb⟩
    unfold Val.ownE
    rw [ER]
    refine ⟨if k = 1 then z7 else oc, if k = 1 then z7 else nc, if k = 2 then .slice none 0 0 else fv, if k = 3 then .slice none 0 0 else sv, if k = 4 then .slice none 0 0 else kv, if k = 2 then [] else fe, if k = 3 then [] else se, if k = 4 then [] else ke, ?_, ?_, ?_, ?_, ?_, ?_, ?_⟩
    · by_cases h2 : k = 2
      · subst h2; rfl
      · simp [h2]
    · by_cases h2 : k = 2
      · subst h2; exact ⟨Nat.zero_le _, Nat.zero_le _⟩
      · simpa [h2] using ‹_›
    · by_cases h1 : k = 1
      · subst h1; exact ⟨VR.zero _, VR.zero _⟩
      · simp only [h1, if_false]; exact ⟨h3.mono hle, h4.mono hle⟩
    · refine ⟨?_, ?_, ?_⟩
      · split
        · exact FlatC.nil _ _
        · exact h5.mono hle
      · split
        · exact FlatC.nil _ _
        · exact h6.mono hle
      · split
        · exact FlatC.nil _ _
        · exact h7.mono hle
    · split
      · rw [EFs]
      · exact h8.mono hle
    · split
      · rw [ESs]
      · exact h9.mono hle
    · split
      · rw [EKs]
      · exact h10.mono hle
  by_cases c1 : k = 1
  · subst c1
    refine (eown1 _ w hl ho h0).mono ?_
    rintro e w1 ⟨rfl, hb⟩
    have := fin w1 hb
    rw [patch_old lo rfl, patch_new rfl ln rfl]
    exact this
  · by_cases c2 : k = 2
    · subst c2
      refine (eown2 _ w hl ho h0).mono ?_
      rintro e w1 ⟨rfl, hb⟩
      have := fin w1 hb
      rw [patch_tail (o := 0) lo ln, patch_tail (o := 1) lo ln, patch_tail (o := 2) lo ln, patch_tail (o := 3) lo ln]
      exact this
    · by_cases c3 : k = 3
      · subst c3
        refine (eown3 _ w hl ho h0).mono ?_
        rintro e w1 ⟨rfl, hb⟩
        have := fin w1 hb
        rw [patch_tail (o := 4) lo ln]
        exact this
      · by_cases c4 : k = 4
        · subst c4
          refine (eown4 _ w hl ho h0).mono ?_
          rintro e w1 ⟨rfl, hb⟩
          have := fin w1 hb
          rw [patch_tail (o := 5) lo ln]
          exact this
        · refine (eown0 k _ w hl ho h0 (by simpa using c1) (by simpa using c2) (by simpa using c3) (by simpa using c4)).mono ?_
          rintro e w1 ⟨rfl, hb⟩
          have := fin w1 hb
          simp only [c1, c2, c3, c4, if_false] at this
          exact this

end Go.Proofs.YtkldcjlkeblggaaDoor
