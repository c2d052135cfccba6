/- The reference redlineref08, walked: Of, given what file answers. -/
import Derived.Test.YtpcfdngnmigkfaaGreatDoorRyParse
import Derived.Test.YtpcfdngnmigkfaaGreatDoorLzBad
set_option linter.unusedVariables false
set_option linter.unusedSimpArgs false
namespace Go.Proofs.YtpcfdngnmigkfaaGreatDoor
open Go.RowKit
def ofR (o : Lx.Out) : Sx.Fil × Nat × Nat × Nat := match o with
 | .ok ts => Sy.parseR ts
 | .bad n p => (Sy.zFil, n, p.1, p.2)
theorem filR_size {h : Frag} {f : Sx.Fil} {cs : List Value} (hr : FilR h f cs) : cs.length = 3 := by obtain ⟨v1, v2, mss, ess, rfl, _⟩ := hr; rfl
theorem filR_one {h : Frag} {f : Sx.Fil} {cs : List Value} (hr : FilR h f cs) : ∀ u ∈ cs, u.oneCell' = true := by
 obtain ⟨v1, v2, mss, ess, rfl, ⟨⟨⟨a1, c1, rfl, _⟩, _⟩, ⟨⟨a2, c2, rfl, _⟩, _⟩⟩, _, _⟩ := hr
 intro u hu; simp only [List.mem_cons, List.not_mem_nil, or_false] at hu; rcases hu with rfl | rfl | rfl <;> rfl
theorem rsplit_all (s : ByteArray) (hm : s.size ≤ maxLen) (w : World) : Calls Tryz.prog 12 #[.string s] w (RSplitPost w (Lx.split s.data.toList)) := by
 unfold Lx.split
 have e : s.data.toList.length = s.size := len_data s
 by_cases h : 4000 < s.size
 ·rw [if_pos (by rw [e]; exact h)]; exact rsplit_long s w h hm
 ·rw [if_neg (by rw [e]; exact h)]; exact rsplit_any s w h
set_option maxHeartbeats 4000000 in
set_option maxRecDepth 100000 in
theorem rof8_any (HF : FileSaid) (s : ByteArray) (hm : s.size ≤ maxLen) (w : World) :
  Calls Tryz.prog 6 #[.string s] w (RPar w (ofR (Lx.split s.data.toList))) := by
 obtain ⟨R, hR⟩ : ∃ R, R = ofR (Lx.split s.data.toList) := ⟨_, rfl⟩
 rw [← hR]
 have HSp := Yq (fun w0 => rsplit_all s hm w0)
 have HO0 := Own.nil w
 have HO := OwnR.start HO0 [] (fun r hr => by cases hr)
 have hbf := rfil_build0
 have hfew := @split_few s
 clear HO0
 cases ho : Lx.split s.data.toList with
 | ok ts =>
  rw [ho] at HSp hR hfew
  have hS := hfew rfl
  have HRe := Yq hR
  have HPa := Yq (fun v w0 (hv : FlatV tC (frag w0) v ts) => rparse_any HF v ts hS w0 hv)
  clear hR hfew HF hS ho
  unfold RSplitPost at HSp
  unfold RPar at HPa
  unfold ofR at HRe
  dsimp only at HRe
  have HRd : Hid (R = (R.1, R.2.1, R.2.2.1, R.2.2.2)) := Yq rfl
  rw [← HRe.out] at HPa
  go_enter Tryz.func6, Tryz.ntmps6
  go_wp2_with (first
   | (refine wpList_alloc_ownR rfl 34 rfl zFl zeroRFl HO ?_; clear HO; intro w1 g1 HO)
   | (go_at_call 12; (refine (HSp.out _).mono ?_); rintro e w3 ⟨v, rfl, hFv, hb⟩; replace HO := HO.call hb; obtain ⟨av, cv, rfl, _, _, _⟩ := hFv.len; have HFv := Yq hFv; clear hb hFv)
   | (go_at_call 13; (refine (HPa.out _ _ HFv.out).mono ?_); rintro e w4 ⟨cs, rfl, hfl, hb⟩; have hfr := HO.fresh hb; have hcl := filR_size hfl; have hone := filR_one hfl; replace HO := (HO.call hb).read (RD' := fun h => FilR h R.1 cs) (fun _ _ hle q => q.mono hle) (fun _ => hfl.mono hfr); clear hb hfr hfl)
   | (refine wpList_store_ownR 0 rfl 34 _ _ rfl _ 0 cs rfl rfl HO rfl (by rw [hcl]; exact infoRFl) (by rw [hcl]; decide) hone (patch_whole2 cs hcl) ?_; clear HO; intro w8 HO))
  refine bodyPost_ret (v := .tuple #[.agg (cs).toArray, .int .i64 R.2.1, .int .i64 R.2.2.1, .int .i64 R.2.2.2]) ?_ rfl ⟨cs, rfl, HO.done, HO.below⟩
  exact results_cttt rfl (by kernel_rfl) (by kernel_rfl) (by kernel_rfl) (by kernel_rfl) (run_load_blk (HO.own.at 0 rfl) _ Tryz.underlying34 rfl (by rw [hcl]; exact infoRFl))
 | bad n p =>
  rw [ho] at HSp hR
  have hn : n ≠ 0 := split_badn ho
  have HRe : Hid (R = (Sy.zFil, n, p.1, p.2)) := Yq hR
  obtain ⟨p1, p2⟩ := p
  obtain ⟨z, hz⟩ : ∃ z, z = (n : Int) := ⟨_, rfl⟩
  have q1 : (z == 0) = false := by rw [beq_eq_false_iff_ne]; omega
  unfold RSplitPost at HSp
  dsimp only at HSp HRe
  have Hz := Yq hz
  rw [← hz] at HSp
  clear hR hfew HF ho hn hz
  go_enter Tryz.func6, Tryz.ntmps6
  go_wp2_with (first
   | (refine wpList_alloc_ownR rfl 34 rfl zFl zeroRFl HO ?_; clear HO; intro w1 g1 HO)
   | (go_at_call 12; (refine (HSp.out _).mono ?_); rintro e w3 ⟨rfl, hb⟩; replace HO := HO.call hb; clear hb)
   | (refine wpList_store_ownR 0 rfl 34 _ _ rfl _ 0 zFl rfl rfl HO rfl infoRFl (Nat.le_refl _) one_zFl rfl ?_; clear HO; intro w8 HO))
  rw [HRe.out]
  refine bodyPost_ret (v := .tuple #[.agg (zFl).toArray, .int .i64 z, .int .i64 p1, .int .i64 p2]) ?_ rfl ⟨zFl, by rw [Hz.out], zFl_filR _, HO.below⟩
  exact results_cttt rfl (by kernel_rfl) (by kernel_rfl) (by kernel_rfl) (by kernel_rfl) (run_load_blk (HO.own.at 0 rfl) _ Tryz.underlying34 rfl infoRFl)
end Go.Proofs.YtpcfdngnmigkfaaGreatDoor
