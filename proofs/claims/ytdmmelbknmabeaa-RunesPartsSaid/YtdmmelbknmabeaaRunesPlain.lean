/- Plain facts on UTF-8 texts as lists of bytes: the size of the first rune, where runes end. No program in sight. -/
namespace Go.Proofs.Ytdmmelbknmabeaa.Runes

/-- how many bytes a rune has that begins with b, and the range of its second byte -/
def shp (b : Int) : Int × Int × Int :=
  if b < 128 then (1,128,191) else if b < 194 ∨ 244 < b then (0,128,191) else if b ≤ 223 then (2,128,191) else if b = 224 then (3,160,191) else if b = 237 then (3,128,159)
  else if b ≤ 239 then (3,128,191) else if b = 240 then (4,144,191) else if b = 244 then (4,128,143) else (4,128,191)

theorem shp_n (b : Int) : 0 ≤ (shp b).1 ∧ (shp b).1 ≤ 4 ∧ 128 ≤ (shp b).2.1 ∧ (shp b).2.2 ≤ 191 := by
  unfold shp
  repeat' split
  all_goals simp

theorem shp_ex (b : Int) : ∃ n lo hi, shp b = (n, lo, hi) ∧ 0 ≤ n ∧ n ≤ 4 ∧ 128 ≤ lo ∧ hi ≤ 191 := by
  have h := shp_n b
  generalize shp b = p at *
  obtain ⟨n, lo, hi⟩ := p
  exact ⟨n, lo, hi, rfl, h⟩

/-- is a byte within two bounds? -/
def inI (lo hi b : Int) : Bool := decide (lo ≤ b) && decide (b ≤ hi)

def inb (p : Int × Int) (b : UInt8) : Bool := inI p.1 p.2 b.toNat

/-- byte j of l (j ≥ 1) may follow in a rune -/
def okAt (l : List UInt8) (j : Nat) : Bool := inb (if j = 1 then (shp ((l.getD 0 0).toNat : Int)).2 else (128, 191)) (l.getD j 0)

/-- how many bytes the first rune has -/
def us (l : List UInt8) : Nat :=
  if l.length = 0 then 0 else
  if (l.length : Int) < (shp ((l.getD 0 0).toNat : Int)).1 then 0 else
  if (List.range (shp ((l.getD 0 0).toNat : Int)).1.toNat).all (fun j => j == 0 || okAt l j) then (shp ((l.getD 0 0).toNat : Int)).1.toNat else 0

theorem us_le (l : List UInt8) : us l ≤ l.length := by
  unfold us
  repeat' split
  all_goals omega

theorem us_le4 (l : List UInt8) : us l ≤ 4 := by
  have := shp_n ((l.getD 0 0).toNat : Int)
  unfold us
  repeat' split
  all_goals omega

theorem us_nil : us [] = 0 := rfl

theorem us_yes {l : List UInt8} (h0 : 0 < l.length) (h1 : (shp ((l.getD 0 0).toNat : Int)).1 ≤ l.length)
    (h : ∀ j : Nat, 1 ≤ j → (j : Int) < (shp ((l.getD 0 0).toNat : Int)).1 → okAt l j = true) : us l = (shp ((l.getD 0 0).toNat : Int)).1.toNat := by
  unfold us
  rw [if_neg (by omega), if_neg (by omega), if_pos]
  rw [List.all_eq_true]
  intro j hj
  have := List.mem_range.1 hj
  by_cases e : j = 0
  · simp [e]
  · rw [h j (by omega) (by omega)]; simp

theorem us_no {l : List UInt8} {j : Nat} (h1 : 1 ≤ j) (h2 : (j : Int) < (shp ((l.getD 0 0).toNat : Int)).1) (h : okAt l j = false) : us l = 0 := by
  unfold us
  split
  · rfl
  · split
    · rfl
    · rw [if_neg]
      rw [List.all_eq_true]
      intro hall
      have := hall j (List.mem_range.2 (by omega))
      rw [h] at this
      simp at this
      omega

theorem us_short {l : List UInt8} (h1 : (l.length : Int) < (shp ((l.getD 0 0).toNat : Int)).1) : us l = 0 := by
  unfold us
  split
  · rfl
  · rfl

/-- a rune is known by its own bytes -/
theorem us_cut (l : List UInt8) (m : Nat) (h0 : 0 < us l) (h : us l ≤ m) : us (l.take m) = us l := by
  have hle := us_le l
  have hpos : 0 < l.length := by omega
  have hm : 0 < m := by omega
  have hs : us l = (shp ((l.getD 0 0).toNat : Int)).1.toNat ∧ ∀ j : Nat, 1 ≤ j → (j : Int) < (shp ((l.getD 0 0).toNat : Int)).1 → okAt l j = true := by
    unfold us at h0 ⊢
    split at h0
    · omega
    · split at h0
      · omega
      · split at h0
        · rename_i a b c
          rw [if_neg a, if_neg b, if_pos c]
          refine ⟨rfl, fun j h1 h2 => ?_⟩
          have := (List.all_eq_true.1 c) j (List.mem_range.2 (by omega))
          simp at this
          rcases this with e | e
          · omega
          · exact e
        · omega
  have hn := shp_n ((l.getD 0 0).toNat : Int)
  have hg : ∀ j, j < m → (l.take m).getD j 0 = l.getD j 0 := fun j hj => by
    simp [List.getD_eq_getElem?_getD, hj]
  rw [hs.1]
  have h00 := hg 0 hm
  rw [us_yes]
  · rw [h00]
  · rw [List.length_take]; omega
  · rw [h00, List.length_take]; omega
  · rw [h00]
    intro j h1 h2
    have := hs.2 j h1 h2
    unfold okAt at this ⊢
    rw [h00, hg j (by omega)]
    exact this

theorem us_take_pos (l : List UInt8) (m : Nat) (h0 : 0 < us (l.take m)) : us l = us (l.take m) := by
  have hle := us_le (l.take m)
  have hpos : 0 < (l.take m).length := by omega
  have hml : 0 < m ∧ 0 < l.length := by simp at hpos; omega
  have hlen : (l.take m).length ≤ m ∧ (l.take m).length ≤ l.length := by simp; omega
  have hg : ∀ j, j < m → (l.take m).getD j 0 = l.getD j 0 := fun j hj => by
    simp [List.getD_eq_getElem?_getD, hj]
  have h00 := hg 0 hml.1
  have hs : us (l.take m) = (shp ((l.getD 0 0).toNat : Int)).1.toNat ∧ (shp ((l.getD 0 0).toNat : Int)).1 ≤ (l.take m).length ∧ ∀ j : Nat, 1 ≤ j → (j : Int) < (shp ((l.getD 0 0).toNat : Int)).1 → okAt (l.take m) j = true := by
    unfold us at h0 ⊢
    rw [h00] at h0 ⊢
    split at h0
    · omega
    · split at h0
      · omega
      · split at h0
        · rename_i a b c
          rw [if_neg a, if_neg b, if_pos c]
          refine ⟨rfl, by omega, fun j h1 h2 => ?_⟩
          have := (List.all_eq_true.1 c) j (List.mem_range.2 (by omega))
          simp at this
          rcases this with e | e
          · omega
          · exact e
        · omega
  have hn := shp_n ((l.getD 0 0).toNat : Int)
  rw [hs.1]
  refine us_yes hml.2 (by omega) fun j h1 h2 => ?_
  have := hs.2.2 j h1 h2
  unfold okAt at this ⊢
  rw [h00, hg j (by omega)] at this
  exact this

/-- where the k-th rune begins -/
def pos (l : List UInt8) : Nat → Nat
  | 0 => 0
  | k + 1 => pos l k + us (l.drop (pos l k))

theorem pos_succ (l : List UInt8) (k : Nat) : pos l (k + 1) = pos l k + us (l.drop (pos l k)) := rfl

theorem pos_le (l : List UInt8) : ∀ k, pos l k ≤ l.length
  | 0 => Nat.zero_le _
  | k + 1 => by
    have := pos_le l k
    have := us_le (l.drop (pos l k))
    simp only [List.length_drop] at this
    rw [pos_succ]
    omega

/-- the k-th rune is there and ends no further than most -/
def goes (l : List UInt8) (most : Int) (k : Nat) : Prop := us (l.drop (pos l k)) ≠ 0 ∧ (us (l.drop (pos l k)) : Int) ≤ most - pos l k

/-- k runes are gone over, and no further one -/
def IsEnd (l : List UInt8) (most : Int) (k : Nat) : Prop := (∀ j, j < k → goes l most j) ∧ ¬ goes l most k

theorem IsEnd.unique {l : List UInt8} {most : Int} {k k' : Nat} (h : IsEnd l most k) (h' : IsEnd l most k') : k = k' := by
  rcases Nat.lt_trichotomy k k' with e | e | e
  · exact absurd (h'.1 k e) h.2
  · exact e
  · exact absurd (h.1 k' e) h'.2

theorem goes_all (l : List UInt8) (k : Nat) : goes l l.length k ↔ us (l.drop (pos l k)) ≠ 0 := by
  unfold goes
  have := us_le (l.drop (pos l k))
  have := pos_le l k
  simp only [List.length_drop] at *
  omega

theorem pos_mono {l : List UInt8} {j k : Nat} (h : j ≤ k) : pos l j ≤ pos l k := by
  induction k with
  | zero => have : j = 0 := by omega
            subst this; exact Nat.le_refl _
  | succ k ih =>
    rcases Nat.lt_or_ge j (k + 1) with e | e
    · have := ih (by omega); rw [pos_succ]; omega
    · have : j = k + 1 := by omega
      subst this; exact Nat.le_refl _

theorem pos_ge {l : List UInt8} {most : Int} : ∀ k, (∀ j, j < k → goes l most j) → k ≤ pos l k
  | 0, _ => Nat.zero_le _
  | k + 1, h => by
    have := pos_ge k (fun j hj => h j (by omega))
    have h1 := (h k (by omega)).1
    rw [pos_succ]
    omega

theorem pos_lt {l : List UInt8} {most : Int} {k j : Nat} (h : ∀ j, j < k → goes l most j) (hj : j < k) : pos l j < pos l (j + 1) := by
  have h1 := (h j hj).1
  rw [pos_succ]
  omega

/-- where the text ends to be right -/
theorem stuck {l : List UInt8} {k m : Nat} (h : us (l.drop (pos l k)) = 0) (hm : k ≤ m) : pos l m = pos l k := by
  induction m with
  | zero => have : k = 0 := by omega
            rw [this]
  | succ m ih =>
    rcases Nat.lt_or_ge k (m + 1) with e | e
    · have := ih (by omega)
      rw [pos_succ, this, h]; omega
    · have : k = m + 1 := by omega
      rw [this]

theorem exists_end (l : List UInt8) (most : Int) : ∃ k, IsEnd l most k := by
  have key : ∀ n, (∀ j, j < n → goes l most j) ∨ ∃ k, IsEnd l most k := by
    intro n
    induction n with
    | zero => left; omega
    | succ n ih =>
      rcases ih with h | h
      · by_cases hg : goes l most n
        · left; intro j hj
          by_cases e : j = n
          · rw [e]; exact hg
          · exact h j (by omega)
        · right; exact ⟨n, h, hg⟩
      · right; exact h
  rcases key (l.length + 1) with h | h
  · have := pos_ge _ h
    have := pos_le l (l.length + 1)
    omega
  · exact h

/-- how many runes are gone over -/
noncomputable def ek (l : List UInt8) (most : Int) : Nat := Classical.choose (exists_end l most)
theorem ek_spec (l : List UInt8) (most : Int) : IsEnd l most (ek l most) := Classical.choose_spec (exists_end l most)

noncomputable def cnt (l : List UInt8) : Nat := ek l l.length
noncomputable def fault (l : List UInt8) : Int := if pos l (cnt l) = l.length then -1 else pos l (cnt l)
noncomputable def right (l : List UInt8) : Bool := decide (fault l < 0)

end Go.Proofs.Ytdmmelbknmabeaa.Runes
