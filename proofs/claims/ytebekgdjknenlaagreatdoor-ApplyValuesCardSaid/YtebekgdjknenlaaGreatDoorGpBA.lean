/- Pieces for redlinelaw21.Of and steps: how the document's edits are built. -/
import Derived.Test.YtebekgdjknenlaaGreatDoorGpAZ
set_option linter.unusedVariables false
set_option linter.unusedSimpArgs false
namespace Go.Proofs.YtebekgdjknenlaaGreatDoor
open Go.RowKit
open Val (V E esz eszF eszS eszK vmx)
theorem ER.len {h : Frag} {x : E} {cs : List Value} (hx : ER h x cs) : cs.length = 21 := hx.shape.len
theorem ER.ones {h : Frag} {x : E} {cs : List Value} (hx : ER h x cs) : ∀ u ∈ cs, u.oneCell' = true := hx.shape.one
theorem EFs.snoc {h : Frag} : ∀ {xs : List (Int × E)} {es : List (List Value)} {n : Int} {x : E} {xc : List Value}, EFs h xs es → ER h x xc → EFs h (xs ++ [(n, x)]) (es ++ [.int .i64 n :: xc])
 | [], es, n, x, xc, hv, hx => by rw [EFs] at hv; subst hv; simp only [List.nil_append]; rw [EFs]; exact ⟨xc, [], rfl, hx, by rw [EFs]⟩
 | (m, y) :: r, es, n, x, xc, hv, hx => by
  rw [EFs] at hv
  obtain ⟨yc, er, rfl, h2, h3⟩ := hv
  simp only [List.cons_append]; rw [EFs]
  exact ⟨yc, _, rfl, h2, h3.snoc hx⟩
theorem ESs.snoc {h : Frag} : ∀ {xs : List (Int × Int × V × E)} {es : List (List Value)} {k c : Int} {v : V} {x : E} {vc xc : List Value}, ESs h xs es → VR h v vc → ER h x xc → ESs h (xs ++ [(k, c, v, x)]) (es ++ [.int .i64 k :: .int .i64 c :: (vc ++ xc)])
 | [], es, k, c, v, x, vc, xc, hv, hn, hx => by rw [ESs] at hv; subst hv; simp only [List.nil_append]; rw [ESs]; exact ⟨vc, xc, [], rfl, hn, hx, by rw [ESs]⟩
 | (a, b, m, y) :: r, es, k, c, v, x, vc, xc, hv, hn, hx => by
  rw [ESs] at hv
  obtain ⟨mc, yc, er, rfl, h1, h2, h3⟩ := hv
  simp only [List.cons_append]; rw [ESs]
  exact ⟨mc, yc, _, rfl, h1, h2, h3.snoc hn hx⟩
theorem EKs.snoc {h : Frag} : ∀ {xs : List (V × E)} {es : List (List Value)} {n : V} {x : E} {nc xc : List Value}, EKs h xs es → VR h n nc → ER h x xc → EKs h (xs ++ [(n, x)]) (es ++ [nc ++ xc])
 | [], es, n, x, nc, xc, hv, hn, hx => by rw [EKs] at hv; subst hv; simp only [List.nil_append]; rw [EKs]; exact ⟨nc, xc, [], rfl, hn, hx, by rw [EKs]⟩
 | (m, y) :: r, es, n, x, nc, xc, hv, hn, hx => by
  rw [EKs] at hv
  obtain ⟨mc, yc, er, rfl, h1, h2, h3⟩ := hv
  simp only [List.cons_append]; rw [EKs]
  exact ⟨mc, yc, _, rfl, h1, h2, h3.snoc hn hx⟩
theorem EFs.sizes {h : Frag} : ∀ {xs : List (Int × E)} {es : List (List Value)}, EFs h xs es → ∀ c ∈ es, c.length = 22
 | [], es, hv, c, hc => by rw [EFs] at hv; subst hv; cases hc
 | (m, y) :: r, es, hv, c, hc => by
  rw [EFs] at hv
  obtain ⟨yc, er, rfl, h2, h3⟩ := hv
  rcases List.mem_cons.1 hc with rfl | hc
  ·rw [List.length_cons, h2.len]
  ·exact h3.sizes c hc
theorem ESs.sizes {h : Frag} : ∀ {xs : List (Int × Int × V × E)} {es : List (List Value)}, ESs h xs es → ∀ c ∈ es, c.length = 30
 | [], es, hv, c, hc => by rw [ESs] at hv; subst hv; cases hc
 | (a, b, m, y) :: r, es, hv, c, hc => by
  rw [ESs] at hv
  obtain ⟨mc, yc, er, rfl, h1, h2, h3⟩ := hv
  rcases List.mem_cons.1 hc with rfl | hc
  ·rw [List.length_cons, List.length_cons, List.length_append, h1.len, h2.len]
  ·exact h3.sizes c hc
theorem EKs.sizes {h : Frag} : ∀ {xs : List (V × E)} {es : List (List Value)}, EKs h xs es → ∀ c ∈ es, c.length = 28
 | [], es, hv, c, hc => by rw [EKs] at hv; subst hv; cases hc
 | (m, y) :: r, es, hv, c, hc => by
  rw [EKs] at hv
  obtain ⟨mc, yc, er, rfl, h1, h2, h3⟩ := hv
  rcases List.mem_cons.1 hc with rfl | hc
  ·rw [List.length_append, h1.len, h2.len]
  ·exact h3.sizes c hc
theorem ER.monoF {x : E} {c : List Value} : MonoF (fun h => ER h x c) := fun _ _ hle h => h.mono hle
theorem EFs.monoF {x : List (Int × E)} {c : List (List Value)} : MonoF (fun h => EFs h x c) := fun _ _ hle h => h.mono hle
theorem ESs.monoF {x : List (Int × Int × V × E)} {c : List (List Value)} : MonoF (fun h => ESs h x c) := fun _ _ hle h => h.mono hle
theorem EKs.monoF {x : List (V × E)} {c : List (List Value)} : MonoF (fun h => EKs h x c) := fun _ _ hle h => h.mono hle
/- the document's types -/
theorem T_oF : SliceT Tryz.prog 48 76 (.agg (Value.int .i64 0 :: zE).toArray) 22 368 := ⟨Tryz.underlying48, by kernel_rfl, rfl, by decide, by decide⟩
theorem T_oS : SliceT Tryz.prog 49 94 (.agg (Value.int .i64 0 :: .int .i64 0 :: (zV ++ zE)).toArray) 30 496 := ⟨Tryz.underlying49, by kernel_rfl, rfl, by decide, by decide⟩
theorem T_oK : SliceT Tryz.prog 50 80 (.agg (zV ++ zE).toArray) 28 480 := ⟨Tryz.underlying50, by kernel_rfl, rfl, by decide, by decide⟩
theorem oREF2 : (Tryz.prog.info? 76).map (fun i => (i.size, i.zero.map (fun z => z.cells.size))) = some (22, some 22) := by kernel_rfl
theorem oRES2 : (Tryz.prog.info? 94).map (fun i => (i.size, i.zero.map (fun z => z.cells.size))) = some (30, some 30) := by kernel_rfl
theorem oREK2 : (Tryz.prog.info? 80).map (fun i => (i.size, i.zero.map (fun z => z.cells.size))) = some (28, some 28) := by kernel_rfl
theorem oREF1 : (Tryz.prog.info? 48).map (·.size) = some 1 := by kernel_rfl
theorem oREK1 : (Tryz.prog.info? 50).map (·.size) = some 1 := by kernel_rfl
theorem oREi : (Tryz.prog.info? 52).map (·.size) = some 21 := by kernel_rfl
theorem oREz : (Tryz.prog.info? 52).map (·.zero) = some (some (.agg zE.toArray)) := by kernel_rfl
theorem oREFz : (Tryz.prog.info? 76).map (·.zero) = some (some (.agg (Value.int .i64 0 :: zE).toArray)) := by kernel_rfl
theorem oRESz : (Tryz.prog.info? 94).map (·.zero) = some (some (.agg (Value.int .i64 0 :: .int .i64 0 :: (zV ++ zE)).toArray)) := by kernel_rfl
theorem oREKz : (Tryz.prog.info? 80).map (·.zero) = some (some (.agg (zV ++ zE).toArray)) := by kernel_rfl
def cOE (k : Int) (oc nc : List Value) (fv : Value) (r : Bool) (ro rn : ByteArray) (sv kv : Value) : List Value := .int .i64 k :: (oc ++ (nc ++ [fv, .bool r, .string ro, .string rn, sv, kv]))
theorem cOE_len {k : Int} {oc nc : List Value} {fv : Value} {r : Bool} {ro rn : ByteArray} {sv kv : Value} (h1 : oc.length = 7) (h2 : nc.length = 7) : (cOE k oc nc fv r ro rn sv kv).length = 21 := by
 simp [cOE, h1, h2]
theorem cOE_one {k : Int} {oc nc : List Value} {fv : Value} {r : Bool} {ro rn : ByteArray} {sv kv : Value} (h1 : ∀ u ∈ oc, u.oneCell' = true) (h2 : ∀ u ∈ nc, u.oneCell' = true) (h3 : fv.oneCell' = true) (h4 : sv.oneCell' = true) (h5 : kv.oneCell' = true) :
  ∀ u ∈ cOE k oc nc fv r ro rn sv kv, u.oneCell' = true := fun u hu => by
 simp only [cOE, List.mem_cons, List.mem_append, List.not_mem_nil, or_false] at hu
 rcases hu with rfl | hu | hu | rfl | rfl | rfl | rfl | rfl | rfl
 ·rfl
 ·exact h1 u hu
 ·exact h2 u hu
 ·exact h3
 ·rfl
 ·rfl
 ·rfl
 ·exact h4
 ·exact h5
theorem cOE_fields {k : Int} {oc nc : List Value} {fv v : Value} {r : Bool} {ro rn : ByteArray} {sv kv : Value} (h1 : oc.length = 7) (h2 : nc.length = 7) : patch (cOE k oc nc fv r ro rn sv kv) 15 [v] = cOE k oc nc v r ro rn sv kv := by
 have e : ∀ x, cOE k oc nc x r ro rn sv kv = (.int .i64 k :: (oc ++ nc)) ++ ([x] ++ [.bool r, .string ro, .string rn, sv, kv]) := fun x => by simp [cOE]
 rw [e fv, patch_app (by simp [h1, h2]), e v]; simp
theorem cOE_keys {k : Int} {oc nc : List Value} {fv v : Value} {r : Bool} {ro rn : ByteArray} {sv kv : Value} (h1 : oc.length = 7) (h2 : nc.length = 7) : patch (cOE k oc nc fv r ro rn sv kv) 20 [v] = cOE k oc nc fv r ro rn sv v := by
 have e : ∀ x, cOE k oc nc fv r ro rn sv x = (.int .i64 k :: (oc ++ (nc ++ [fv, .bool r, .string ro, .string rn, sv]))) ++ [x] := fun x => by simp [cOE]
 rw [e kv, show [kv] = [kv] ++ ([] : List Value) from rfl, patch_app (by simp [h1, h2]), e v]; simp
theorem cOE_f {k : Int} {oc nc : List Value} {fv : Value} {r : Bool} {ro rn : ByteArray} {sv kv : Value} (h1 : oc.length = 7) (h2 : nc.length = 7) : (cOE k oc nc fv r ro rn sv kv)[15]? = some fv := by
 unfold cOE
 rw [List.getElem?_cons_succ, List.getElem?_append_right (by omega), List.getElem?_append_right (by omega), h1, h2]; rfl
theorem cOE_k {k : Int} {oc nc : List Value} {fv : Value} {r : Bool} {ro rn : ByteArray} {sv kv : Value} (h1 : oc.length = 7) (h2 : nc.length = 7) : (cOE k oc nc fv r ro rn sv kv)[20]? = some kv := by
 unfold cOE
 rw [List.getElem?_cons_succ, List.getElem?_append_right (by omega), List.getElem?_append_right (by omega), h1, h2]; rfl
theorem places_oE : ∃ fs, Tryz.prog.underlying 52 = some (.struct fs) ∧ placesOf Tryz.prog fs #[(0, 1), (1, 7), (8, 7), (15, 1), (16, 1), (17, 1), (18, 1), (19, 1), (20, 1)] := ⟨_, Tryz.underlying52, fun w => by kernel_rfl⟩
theorem rb_oE (k : Int) {oc nc : List Value} (r : Bool) (ro rn : ByteArray) {sv : Value} (h1 : oc.length = 7) (h2 : nc.length = 7) (h3 : sv.oneCell' = true) (w : World) :
  (Instr.build 52 #[(0, .int .i64 k), (1, .agg oc.toArray), (2, .agg nc.toArray), (4, .bool r), (5, .string ro), (6, .string rn), (7, sv)]).run Tryz.prog w = .ok (.agg (cOE k oc nc (.slice none 0 0) r ro rn sv (.slice none 0 0)).toArray) w :=
 run_build_of places_oE oREz (by
  have hs := one_cells h3
  match oc, h1, nc, h2 with
  | [_, _, _, _, _, _, _], _, [_, _, _, _, _, _, _], _ =>
   rw [fill_part (off := 0) (vs := [.int .i64 k]) rfl rfl (Nat.le_of_ble_eq_true rfl), fill_part (off := 1) (vs := [_, _, _, _, _, _, _]) rfl rfl (Nat.le_of_ble_eq_true rfl), fill_part (off := 8) (vs := [_, _, _, _, _, _, _]) rfl rfl (Nat.le_of_ble_eq_true rfl), fill_part (off := 16) (vs := [.bool r]) rfl rfl (Nat.le_of_ble_eq_true rfl), fill_part (off := 17) (vs := [.string ro]) rfl rfl (Nat.le_of_ble_eq_true rfl), fill_part (off := 18) (vs := [.string rn]) rfl rfl (Nat.le_of_ble_eq_true rfl), fill_part (off := 19) (vs := [sv]) rfl hs (Nat.le_of_ble_eq_true rfl), Instr.fill]
   rfl) w
theorem places_oS : ∃ fs, Tryz.prog.underlying 94 = some (.struct fs) ∧ placesOf Tryz.prog fs #[(0, 1), (1, 1), (2, 7), (9, 21)] := ⟨_, Tryz.underlying94, fun w => by kernel_rfl⟩
theorem rb_oS (k c : Int) {vc xc : List Value} (h1 : vc.length = 7) (h2 : xc.length = 21) (w : World) :
  (Instr.build 94 #[(0, .int .i64 k), (1, .int .i64 c), (2, .agg vc.toArray), (3, .agg xc.toArray)]).run Tryz.prog w = .ok (.agg (.int .i64 k :: .int .i64 c :: (vc ++ xc) : List Value).toArray) w :=
 run_build_of places_oS oRESz (by
  have e : (Value.int .i64 0 :: .int .i64 0 :: (zV ++ zE) : List Value) = [] ++ (Value.int .i64 0 :: .int .i64 0 :: (zV ++ zE)) := rfl
  rw [e]
  refine fill_next (vs := [.int .i64 k]) rfl rfl (Nat.le_of_ble_eq_true rfl) (fill_next (vs := [.int .i64 c]) rfl rfl (Nat.le_of_ble_eq_true rfl) (fill_next (vs := vc) (by rw [h1]; rfl) rfl (by rw [h1]; exact Nat.le_of_ble_eq_true rfl) (fill_next (vs := xc) (by simp only [List.length_append, h1, h2]; rfl) rfl (by rw [h1, h2]; exact Nat.le_of_ble_eq_true rfl) ?_)))
  rw [h1, h2, Instr.fill]
  simp [zV, zE]) w
open Val (V E right cmp eright ado adoF adoS adoK Res avalue esm esmF esmS esmK vmx esz eszF eszS eszK efields esteps ekeys get find withV putV mkM mkP mkL partB setRest headKind KI KP KeysOf allF allS allK)
mutual
theorem Val.ado_bad : ∀ (e : E) (v : V) (b : Nat), ado e v = .bad b → b = 12 ∨ b = 13
 | .mk k o n f r ro rn s ks, v, b, h => by
  rw [ado] at h
  split at h
  ·split at h
   ·cases h
   ·cases h; decide
  ·split at h
   ·split at h
    ·cases hF : adoF f v with
     | bad b' => rw [hF] at h; cases h; exact Val.adoF_bad f v _ hF
     | ok w =>
      rw [hF] at h; simp only at h
      split at h
      ·split at h
       ·cases h
       ·cases h; decide
      ·cases h
    ·cases h; decide
   ·split at h
    ·split at h
     ·cases hF : adoS s v.list [] with
      | bad b' => rw [hF] at h; cases h; exact Val.adoS_bad s _ _ _ hF
      | ok p =>
       rw [hF] at h; simp only at h
       split at h
       ·cases h; decide
       ·cases h
     ·cases h; decide
    ·split at h
     ·split at h
      ·exact Val.adoK_bad ks v b h
      ·cases h; decide
     ·cases h
theorem Val.adoF_bad : ∀ (f : List (Int × E)) (v : V) (b : Nat), adoF f v = .bad b → b = 12 ∨ b = 13
 | [], v, b, h => by rw [adoF] at h; cases h
 | (n, e) :: r, v, b, h => by
  rw [adoF] at h
  cases hE : ado e (get v n) with
  | bad b' => rw [hE] at h; cases h; exact Val.ado_bad e _ _ hE
  | ok x => rw [hE] at h; exact Val.adoF_bad r _ b h
theorem Val.adoS_bad : ∀ (s : List (Int × Int × V × E)) (l o : List V) (b : Nat), adoS s l o = .bad b → b = 12 ∨ b = 13
 | [], l, o, b, h => by rw [adoS] at h; cases h
 | (k, c, v, e) :: r, l, o, b, h => by
  rw [adoS.eq_def] at h; simp only at h
  split at h
  ·split at h
   ·cases h; decide
   ·exact Val.adoS_bad r _ _ b h
  ·split at h
   ·cases l with
    | nil => simp only at h; cases h; decide
    | cons x l' =>
     simp only at h
     split at h
     ·exact Val.adoS_bad r _ _ b h
     ·cases h; decide
   ·split at h
    ·exact Val.adoS_bad r _ _ b h
    ·cases l with
     | nil => simp only at h; cases h; decide
     | cons x l' =>
      simp only at h
      cases hE : ado e x with
      | bad b' => rw [hE] at h; cases h; exact Val.ado_bad e _ _ hE
      | ok y =>
       rw [hE] at h; simp only at h
       split at h
       ·exact Val.adoS_bad r _ _ b h
       ·cases h; decide
theorem Val.adoK_bad : ∀ (f : List (V × E)) (v : V) (b : Nat), adoK f v = .bad b → b = 12 ∨ b = 13
 | [], v, b, h => by rw [adoK] at h; cases h
 | (n, e) :: r, v, b, h => by
  rw [adoK] at h
  split at h
  ·cases h; decide
  ·cases hE : ado e (find v n) with
   | bad b' => rw [hE] at h; cases h; exact Val.ado_bad e _ _ hE
   | ok x =>
    rw [hE] at h; simp only at h
    split at h
    ·cases h; decide
    ·exact Val.adoK_bad r _ b h
end
theorem Val.with_rest (v : V) (n : Int) (x : V) : (withV v n x).rest = v.rest := by unfold withV; split <;> rfl
def RVn (h : Frag) (r : Res V) (cs : List Value) (n : Int) : Prop := match r with
 | .bad b => cs = zV ∧ n = b
 | .ok x => n = 0 ∧ VR h x cs
theorem RVn.monoF {r : Res V} {cs : List Value} {n : Int} : MonoF (fun h => RVn h r cs n) := fun h h' hle hx => by
 cases r with
 | bad b => exact hx
 | ok x => exact ⟨hx.1, hx.2.mono hle⟩
theorem RetN.form {F : List (Option Nat)} {w w' : World} {r : Res V} {e : Ending} (h : RetN F w r e w') : ∃ (cs : List Value) (n : Int), e = .returned (.tuple #[.agg cs.toArray, .int .i64 n]) ∧ cs.length = 7 ∧ (∀ u ∈ cs, u.oneCell' = true) ∧ Below w.heap.size w w' ∧ RVn (fragE w' F) r cs n := by
 obtain ⟨hb, h⟩ := h
 cases r with
 | bad b => exact ⟨zV, b, h, rfl, zV1, hb, rfl, rfl⟩
 | ok x =>
  obtain ⟨xc, rfl, hx⟩ := h
  exact ⟨xc, 0, rfl, hx.len, hx.ones, hb, rfl, hx⟩
theorem RetN.of {F : List (Option Nat)} {w w' : World} {r : Res V} {cs : List Value} {n : Int} (hb : Below w.heap.size w w') (h : RVn (fragE w' F) r cs n) : RetN F w r (.returned (.tuple #[.agg cs.toArray, .int .i64 n])) w' := by
 cases r with
 | bad b => obtain ⟨rfl, rfl⟩ := h; exact ⟨hb, rfl⟩
 | ok x => obtain ⟨rfl, h⟩ := h; exact ⟨hb, cs, rfl, h⟩
def DoCut (F : List (Option Nat)) (w : World) (l : List (Nat × List Value)) (L : List ORow) (RD : Frag → Prop) (R : Res V) (v10 v11 : Value) (wx : World) : Prop := ∃ (g10 : Nat) (cs : List Value) (n : Int),
 v10 = .pointer (some ⟨g10, 0, none⟩) ∧ v11 = .int .i64 n ∧ OwnF F w ((g10, cs) :: l) L (fun h => RD h ∧ RVn h R cs n) wx ∧ cs.length = 7 ∧ ∀ u ∈ cs, u.oneCell' = true
def RDoAt (N : Nat) : Prop := ∀ (F : List (Option Nat)) (e : E) (v : V) (ec vc : List Value) (w : World), (∀ k, some k ∈ F → k < w.heap.size) → SizeOf.sizeOf e < N → eright e = true → right v = true → esm e → vmx v + esz e ≤ 90000 → ER (fragE w F) e ec → VR (fragE w F) v vc →
 Calls Tryz.prog 22 #[.agg ec.toArray, .agg vc.toArray] w (RetN F w (ado e v))
theorem VR.setRest {h : Frag} {y : V} {yc : List Value} (hy : VR h y yc) {r : ByteArray} (hr : r.size ≤ maxLen) : VR h (setRest y r) (patch yc 4 [.string r]) := by
 obtain ⟨yk, yn, yt, yfs, yr, yl, yps⟩ := y
 rw [VR] at hy
 obtain ⟨yfv, ylv, ypv, yfe, yle, ype, rfl, hys, hf, h4, h5, h6⟩ := hy
 show VR h (.mk yk yn yt yfs r yl yps) _
 rw [VR]
 exact ⟨yfv, ylv, ypv, yfe, yle, ype, rfl, ⟨hys.1, hr⟩, hf, h4, h5, h6⟩
theorem VR.rest4 {h : Frag} {y : V} {yc : List Value} (hy : VR h y yc) : yc[4]? = some (.string y.rest) := by
 obtain ⟨yk, yn, yt, yfs, yr, yl, yps⟩ := y
 rw [VR] at hy
 obtain ⟨yfv, ylv, ypv, yfe, yle, ype, rfl, hys, hf, h4, h5, h6⟩ := hy
 rfl
theorem rwith_ok (F : List (Option Nat)) (y x : V) (n : Int) (yc xc : List Value) (w : World) (hF : ∀ k, some k ∈ F → k < w.heap.size) (hr : right y = true) (hk : y.kind = 3) (hn : KI n) (hl : y.fields.length ≤ 100000) (hy : VR (fragE w F) y yc) (hx : VR (fragE w F) x xc) :
  Calls Tryz.prog 47 #[.agg yc.toArray, .int .i64 n, .agg xc.toArray] w (RetRV F w (withV y n x)) := by
 rw [← Val.rwithV_eq hr hk hn]
 unfold Val.rwithV
 rw [if_pos ⟨hk, hn⟩]
 obtain ⟨yk, yn, yt, yfs, yr, yl, yps⟩ := y
 have hk : yk = 3 := hk
 subst hk
 exact rwith_three F yn yt yr yfs yl yps n x yc xc w hF hn.1 hn.2 hl hy hx
theorem rput_ok (F : List (Option Nat)) (y x k : V) (kd : Int) (yc kc xc : List Value) (w : World) (hF : ∀ k, some k ∈ F → k < w.heap.size) (hv : KeysOf kd y) (hk : KP kd k) (hl : y.pairs.length ≤ 100000) (hy : VR (fragE w F) y yc) (hkc : VR (fragE w F) k kc) (hx : VR (fragE w F) x xc) :
  Calls Tryz.prog 51 #[.agg yc.toArray, .agg kc.toArray, .agg xc.toArray] w (RetRV F w (putV y k x)) := by
 rw [← Val.rputV_eq hv hk]
 unfold Val.rputV
 rw [if_pos hv.1]
 have h0 := hv.1
 obtain ⟨yk, yn, yt, yfs, yr, yl, yps⟩ := y
 exact rput_good F yk yn yt yr yfs yl yps k x yc kc xc w hF h0 hl hy hkc hx
theorem rget_ok (F : List (Option Nat)) (v : V) (n : Int) (vc : List Value) (w : World) (hF : ∀ k, some k ∈ F → k < w.heap.size) (hr : right v = true) (hn : KI n) (hv : VR (fragE w F) v vc) :
  Calls Tryz.prog 46 #[.agg vc.toArray, .int .i64 n] w (RetRV F w (get v n)) := by
 rw [← Val.rget_eq hr hn]; exact rget_any F v n vc w hF hv
theorem Val.rfind_eq {v n : V} {kd : Int} (hr : right v = true) (hv : KeysOf kd v) (hn : KP kd n) : Val.rfindV v n = find v n := by
 unfold Val.rfindV
 by_cases hk : v.kind = 5
 ·rw [if_pos hk, Val.find_look n hr hv.1, Val.firstP_look hv.2.1 hn]
 ·rw [if_neg hk]; unfold find; rw [if_neg (fun h => hk h.1)]
theorem rfind_ok (F : List (Option Nat)) (v n : V) (kd : Int) (vc nc : List Value) (w : World) (hF : ∀ k, some k ∈ F → k < w.heap.size) (hr : right v = true) (hkv : KeysOf kd v) (hkn : KP kd n) (hv : VR (fragE w F) v vc) (hN : VR (fragE w F) n nc) :
  Calls Tryz.prog 49 #[.agg vc.toArray, .agg nc.toArray] w (RetRV F w (find v n)) := by
 rw [← Val.rfind_eq hr hkv hkn]; exact rfind_any F v n vc nc w hF hv hN
end Go.Proofs.YtebekgdjknenlaaGreatDoor
