/- The reference's Size by a rune's number: plain facts. -/
import Derived.Test.YtdmmelbknmabeaaRunesPlain
namespace Go.Proofs.Ytdmmelbknmabeaa.Runes

theorem us_zero {l : List UInt8} (h : (shp ((l.getD 0 0).toNat : Int)).1 = 0) : us l = 0 := by
  unfold us
  simp only [h]
  split
  · rfl
  · split <;> simp

theorem shp_fst (b n lo hi : Int) (h : shp b = (n, lo, hi)) : (shp b).1 = n ∧ (shp b).2 = (lo, hi) := by rw [h]; exact ⟨rfl, rfl⟩

/-- the ranges, case by case -/
theorem shp2 {b : Int} (h1 : 194 ≤ b) (h2 : b ≤ 223) : shp b = (2, 128, 191) := by
  unfold shp; (repeat' split) <;> first | (exfalso; omega) | rfl
theorem shp1 {b : Int} (h2 : b < 128) : shp b = (1, 128, 191) := by
  unfold shp; (repeat' split) <;> first | (exfalso; omega) | rfl
theorem shp0 {b : Int} (h1 : 128 ≤ b) (h : b < 194 ∨ 244 < b) : shp b = (0, 128, 191) := by
  unfold shp; (repeat' split) <;> first | (exfalso; omega) | rfl
theorem shp3 {b : Int} (h1 : 224 ≤ b) (h2 : b ≤ 239) : shp b = (3, (if b = 224 then 160 else 128), (if b = 237 then 159 else 191)) := by
  unfold shp; (repeat' split) <;> first | (exfalso; omega) | rfl
theorem shp4 {b : Int} (h1 : 240 ≤ b) (h2 : b ≤ 244) : shp b = (4, (if b = 240 then 144 else 128), (if b = 244 then 143 else 191)) := by
  unfold shp; (repeat' split) <;> first | (exfalso; omega) | rfl

theorem okAt1 (l : List UInt8) : okAt l 1 = inb (shp ((l.getD 0 0).toNat : Int)).2 (l.getD 1 0) := rfl
theorem okAt2 (l : List UInt8) {j : Nat} (h : j ≠ 1) : okAt l j = inb (128, 191) (l.getD j 0) := by unfold okAt; rw [if_neg h]
theorem inI_iff {lo hi b : Int} : inI lo hi b = true ↔ lo ≤ b ∧ b ≤ hi := by simp [inI]

theorem us_one {l : List UInt8} (h0 : 0 < l.length) (h : ((l.getD 0 0).toNat : Int) < 128) : us l = 1 := by
  have hs := shp_fst _ _ _ _ (shp1 h)
  rw [us_yes h0 (by rw [hs.1]; omega) (by rw [hs.1]; intro j h1 h2; omega), hs.1]; rfl

/-- a byte that follows is none: no rune -/
theorem us_bad {l : List UInt8} {j : Nat} (h1 : 1 ≤ j) (h2 : (j : Int) < (shp ((l.getD 0 0).toNat : Int)).1) (h : ((l.getD j 0).toNat : Int) < 128 ∨ 191 < ((l.getD j 0).toNat : Int)) : us l = 0 := by
  refine us_no h1 h2 ?_
  have hb := shp_n ((l.getD 0 0).toNat : Int)
  unfold okAt inb
  rw [Bool.eq_false_iff, ne_eq, inI_iff]
  split <;> omega

/-- what of a first byte: how many bytes, by the reference -/
def rn (b : Int) : Int := if b < 192 then 0 else if b < 224 then 2 else if b < 240 then 3 else if b < 248 then 4 else 0
def rv0 (b : Int) : Int := if b < 192 then 0 else if b < 224 then b - 192 else if b < 240 then b - 224 else if b < 248 then b - 240 else 0

theorem rn_shp {b : Int} (h : 128 ≤ b) : (shp b).1 = rn b ∨ (shp b).1 = 0 := by
  unfold shp rn; (repeat' split) <;> first | (exfalso; omega) | simp

theorem us_none {l : List UInt8} (h : 128 ≤ ((l.getD 0 0).toNat : Int)) (hn : rn ((l.getD 0 0).toNat : Int) = 0 ∨ (l.length : Int) < rn ((l.getD 0 0).toNat : Int)) : us l = 0 := by
  rcases rn_shp h with e | e
  · rcases hn with h1 | h1
    · exact us_zero (by omega)
    · exact us_short (by omega)
  · exact us_zero e

theorem us_bad' {l : List UInt8} (h : 128 ≤ ((l.getD 0 0).toNat : Int)) {j : Nat} (h1 : 1 ≤ j) (h2 : (j : Int) < rn ((l.getD 0 0).toNat : Int)) (h3 : ((l.getD j 0).toNat : Int) < 128 ∨ 191 < ((l.getD j 0).toNat : Int)) : us l = 0 := by
  rcases rn_shp h with e | e
  · exact us_bad h1 (by omega) h3
  · exact us_zero e

/-- the number after k bytes -/
def rv (l : List UInt8) : Nat → Int
  | 0 => 0
  | 1 => rv0 ((l.getD 0 0).toNat : Int)
  | k + 2 => rv l (k + 1) * 64 + ((l.getD (k + 1) 0).toNat : Int) - 128

theorem rv_next (l : List UInt8) {k : Nat} (h : 1 ≤ k) : rv l (k + 1) = rv l k * 64 + ((l.getD k 0).toNat : Int) - 128 := by
  cases k with
  | zero => omega
  | succ k => rfl

theorem us2 {l : List UInt8} (hr : rn ((l.getD 0 0).toNat : Int) = 2) (hl : 2 ≤ l.length) (h1 : 128 ≤ ((l.getD 1 0).toNat : Int) ∧ ((l.getD 1 0).toNat : Int) ≤ 191) :
    us l = if rv l 2 < 128 then 0 else 2 := by
  have hv : rv l 2 = rv0 ((l.getD 0 0).toNat : Int) * 64 + ((l.getD 1 0).toNat : Int) - 128 := rfl
  have hb : ((l.getD 0 0).toNat : Int) < 256 := by have := (l.getD 0 0).toNat_lt; omega
  generalize hb0 : ((l.getD 0 0).toNat : Int) = b at *
  have h192 : 192 ≤ b ∧ b < 224 := by unfold rn at hr; (repeat' split at hr) <;> omega
  have h0 : rv0 b = b - 192 := by unfold rv0; rw [if_neg (by omega), if_pos (by omega)]
  by_cases h : b < 194
  · rw [us_zero (by rw [hb0, shp0 (by omega) (.inl h)]), if_pos (by omega)]
  · have hs := shp_fst _ _ _ _ (shp2 (b := b) (by omega) (by omega))
    rw [if_neg (by omega), us_yes (by omega) (by rw [hb0, hs.1]; omega), hb0, hs.1]; rfl
    rw [hb0, hs.1]; intro j h3 h4
    obtain rfl : j = 1 := by omega
    rw [okAt1, hb0, hs.2]; unfold inb; rw [inI_iff]; exact h1

theorem us3 {l : List UInt8} (hr : rn ((l.getD 0 0).toNat : Int) = 3) (hl : 3 ≤ l.length) (h1 : 128 ≤ ((l.getD 1 0).toNat : Int) ∧ ((l.getD 1 0).toNat : Int) ≤ 191) (h2 : 128 ≤ ((l.getD 2 0).toNat : Int) ∧ ((l.getD 2 0).toNat : Int) ≤ 191) :
    us l = if rv l 3 < 2048 ∨ (55296 ≤ rv l 3 ∧ rv l 3 ≤ 57343) then 0 else 3 := by
  have hv : rv l 3 = (rv0 ((l.getD 0 0).toNat : Int) * 64 + ((l.getD 1 0).toNat : Int) - 128) * 64 + ((l.getD 2 0).toNat : Int) - 128 := rfl
  have hb : ((l.getD 0 0).toNat : Int) < 256 := by have := (l.getD 0 0).toNat_lt; omega
  generalize hb0 : ((l.getD 0 0).toNat : Int) = b at *
  have h192 : 224 ≤ b ∧ b < 240 := by unfold rn at hr; (repeat' split at hr) <;> omega
  have h0 : rv0 b = b - 224 := by unfold rv0; rw [if_neg (by omega), if_neg (by omega), if_pos (by omega)]
  have hs := shp_fst _ _ _ _ (shp3 (b := b) (by omega) (by omega))
  by_cases hok : okAt l 1 = true
  · rw [us_yes (by omega) (by rw [hb0, hs.1]; omega), hb0, hs.1, if_neg]; rfl
    · rw [okAt1, hb0, hs.2] at hok; unfold inb at hok; rw [inI_iff] at hok
      simp only at hok
      split at hok <;> split at hok <;> omega
    · rw [hb0, hs.1]; intro j h3 h4
      by_cases e : j = 1
      · rw [e]; exact hok
      · obtain rfl : j = 2 := by omega
        rw [okAt2 l e]; unfold inb; rw [inI_iff]; exact h2
  · have hok' : okAt l 1 = false := by simpa using hok
    rw [us_no (j := 1) (by omega) (by rw [hb0, hs.1]; omega) hok', if_pos]
    rw [okAt1, hb0, hs.2] at hok; unfold inb at hok; rw [inI_iff] at hok
    simp only at hok
    split at hok <;> split at hok <;> omega

theorem us4 {l : List UInt8} (hr : rn ((l.getD 0 0).toNat : Int) = 4) (hl : 4 ≤ l.length) (h1 : 128 ≤ ((l.getD 1 0).toNat : Int) ∧ ((l.getD 1 0).toNat : Int) ≤ 191) (h2 : 128 ≤ ((l.getD 2 0).toNat : Int) ∧ ((l.getD 2 0).toNat : Int) ≤ 191)
    (h3 : 128 ≤ ((l.getD 3 0).toNat : Int) ∧ ((l.getD 3 0).toNat : Int) ≤ 191) :
    us l = if rv l 4 < 65536 ∨ 1114111 < rv l 4 then 0 else 4 := by
  have hv : rv l 4 = ((rv0 ((l.getD 0 0).toNat : Int) * 64 + ((l.getD 1 0).toNat : Int) - 128) * 64 + ((l.getD 2 0).toNat : Int) - 128) * 64 + ((l.getD 3 0).toNat : Int) - 128 := rfl
  have hb : ((l.getD 0 0).toNat : Int) < 256 := by have := (l.getD 0 0).toNat_lt; omega
  generalize hb0 : ((l.getD 0 0).toNat : Int) = b at *
  have h192 : 240 ≤ b ∧ b < 248 := by unfold rn at hr; (repeat' split at hr) <;> omega
  have h0 : rv0 b = b - 240 := by unfold rv0; rw [if_neg (by omega), if_neg (by omega), if_neg (by omega), if_pos (by omega)]
  by_cases h244 : 244 < b
  · rw [us_zero (by rw [hb0, shp0 (by omega) (.inr h244)]), if_pos (by omega)]
  have hs := shp_fst _ _ _ _ (shp4 (b := b) (by omega) (by omega))
  by_cases hok : okAt l 1 = true
  · rw [us_yes (by omega) (by rw [hb0, hs.1]; omega), hb0, hs.1, if_neg]; rfl
    · rw [okAt1, hb0, hs.2] at hok; unfold inb at hok; rw [inI_iff] at hok
      simp only at hok
      split at hok <;> split at hok <;> omega
    · rw [hb0, hs.1]; intro j h5 h4
      by_cases e : j = 1
      · rw [e]; exact hok
      · rw [okAt2 l e]; unfold inb; rw [inI_iff]
        have : j = 2 ∨ j = 3 := by omega
        rcases this with rfl | rfl
        · exact h2
        · exact h3
  · have hok' : okAt l 1 = false := by simpa using hok
    rw [us_no (j := 1) (by omega) (by rw [hb0, hs.1]; omega) hok', if_pos]
    rw [okAt1, hb0, hs.2] at hok; unfold inb at hok; rw [inI_iff] at hok
    simp only at hok
    split at hok <;> split at hok <;> omega

theorem rv_bound {l : List UInt8} : 0 ≤ rv0 ((l.getD 0 0).toNat : Int) ∧ rv0 ((l.getD 0 0).toNat : Int) < 32 := by
  have hb : ((l.getD 0 0).toNat : Int) < 256 := by have := (l.getD 0 0).toNat_lt; omega
  unfold rv0; (repeat' split) <;> omega

end Go.Proofs.Ytdmmelbknmabeaa.Runes
