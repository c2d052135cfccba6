/- Plain facts: how far two rows of numbers are apart; what is got to from their ends. -/
namespace Go.Proofs.Ytlilamlolnkboaa.My

def dist : List Int → List Int → Nat
  | [], b => b.length
  | _ :: r, [] => r.length + 1
  | x :: a, y :: b => if x = y then dist a b else min (dist a (y :: b)) (dist (x :: a) b) + 1
termination_by a b => a.length + b.length

theorem dist_nil (b : List Int) : dist [] b = b.length := by unfold dist; rfl
theorem dist_nil' (a : List Int) : dist a [] = a.length := by cases a <;> simp [dist]
theorem dist_same (x : Int) (a b : List Int) : dist (x :: a) (x :: b) = dist a b := by simp [dist]
theorem dist_ne {x y : Int} (h : x ≠ y) (a b : List Int) : dist (x :: a) (y :: b) = min (dist a (y :: b)) (dist (x :: a) b) + 1 := by simp [dist, h]

theorem dist_comm : ∀ n (a b : List Int), a.length + b.length ≤ n → dist a b = dist b a := by
  intro n
  induction n with
  | zero => intro a b h; cases a <;> cases b <;> simp_all
  | succ n ih =>
    intro a b h
    match a, b with
    | [], b => rw [dist_nil, dist_nil']
    | a, [] => rw [dist_nil, dist_nil']
    | x :: a, y :: b =>
      simp only [List.length_cons] at h
      by_cases e : x = y
      · subst e; rw [dist_same, dist_same]; exact ih a b (by omega)
      · rw [dist_ne e, dist_ne (fun e2 => e e2.symm), ih a (y :: b) (by simp; omega), ih (x :: a) b (by simp; omega), Nat.min_comm]

theorem lip : ∀ n (a b : List Int) (x : Int), a.length + b.length ≤ n → dist a b ≤ dist (x :: a) b + 1 ∧ dist (x :: a) b ≤ dist a b + 1 := by
  intro n
  induction n with
  | zero =>
    intro a b x h
    cases a <;> cases b <;> simp_all [dist]
  | succ n ih =>
    intro a b x h
    match b with
    | [] => rw [dist_nil', dist_nil']; simp; omega
    | y :: b =>
      simp only [List.length_cons] at h
      have h2 := ih b a y (by omega)
      rw [dist_comm _ b a (Nat.le_refl _), dist_comm _ (y :: b) a (Nat.le_refl _)] at h2
      have h1 := ih a b x (by omega)
      by_cases e : x = y
      · subst e; rw [dist_same]; exact ⟨h2.2, h2.1⟩
      · rw [dist_ne e]
        have m1 := Nat.min_le_left (dist a (y :: b)) (dist (x :: a) b)
        rcases Nat.le_total (dist a (y :: b)) (dist (x :: a) b) with hm | hm
        · rw [Nat.min_eq_left hm]; omega
        · rw [Nat.min_eq_right hm]; omega

theorem lip1 (a b : List Int) (x : Int) : dist a b ≤ dist (x :: a) b + 1 := (lip _ a b x (Nat.le_refl _)).1
theorem lip2 (a b : List Int) (x : Int) : dist (x :: a) b ≤ dist a b + 1 := (lip _ a b x (Nat.le_refl _)).2
theorem lip1' (a b : List Int) (y : Int) : dist a b ≤ dist a (y :: b) + 1 := by
  rw [dist_comm _ a b (Nat.le_refl _), dist_comm _ a (y :: b) (Nat.le_refl _)]; exact lip1 b a y
theorem lip2' (a b : List Int) (y : Int) : dist a (y :: b) ≤ dist a b + 1 := by
  rw [dist_comm _ a b (Nat.le_refl _), dist_comm _ a (y :: b) (Nat.le_refl _)]; exact lip2 b a y
theorem diag (a b : List Int) (x y : Int) : dist a b ≤ dist (x :: a) (y :: b) := by
  by_cases e : x = y
  · subst e; rw [dist_same]; exact Nat.le_refl _
  · rw [dist_ne e]
    have h1 := lip1' a b y
    have h2 := lip1 a b x
    omega
theorem dist_le : ∀ n (a b : List Int), a.length + b.length ≤ n → dist a b ≤ a.length + b.length := by
  intro n
  induction n with
  | zero => intro a b h; cases a <;> cases b <;> simp_all [dist]
  | succ n ih =>
    intro a b h
    match a, b with
    | [], b => rw [dist_nil]; simp
    | a, [] => rw [dist_nil']; simp
    | x :: a, y :: b =>
      simp only [List.length_cons] at h ⊢
      have := lip2 a (y :: b) x
      have h2 := ih a (y :: b) (by simp; omega)
      simp only [List.length_cons] at h2
      omega
theorem len_le : ∀ (a b : List Int), a.length ≤ dist a b + b.length
  | a, [] => by rw [dist_nil']; simp
  | a, y :: b => by
    have h1 := len_le a b
    have h2 := lip1' a b y
    simp only [List.length_cons]; omega
theorem len_le' (a b : List Int) : b.length ≤ dist a b + a.length := by
  rw [dist_comm _ a b (Nat.le_refl _)]; exact len_le b a

/-- from places x and y on -/
def D (a b : List Int) (x y : Nat) : Nat := dist (a.drop x) (b.drop y)
theorem D_end (a b : List Int) (y : Nat) : D a b a.length y = b.length - y := by simp [D, dist_nil]
theorem D_end' (a b : List Int) (x : Nat) : D a b x b.length = a.length - x := by simp [D, dist_nil']
theorem D_same {a b : List Int} {x y : Nat} (hx : x < a.length) (hy : y < b.length) (h : a[x] = b[y]) : D a b x y = D a b (x + 1) (y + 1) := by
  unfold D; rw [List.drop_eq_getElem_cons hx, List.drop_eq_getElem_cons hy, h, dist_same]
theorem D_ne {a b : List Int} {x y : Nat} (hx : x < a.length) (hy : y < b.length) (h : a[x] ≠ b[y]) : D a b x y = min (D a b (x + 1) y) (D a b x (y + 1)) + 1 := by
  unfold D
  rw [List.drop_eq_getElem_cons hx, List.drop_eq_getElem_cons hy, dist_ne h]
theorem D_lip {a b : List Int} {x y : Nat} (hx : x < a.length) : D a b x y ≤ D a b (x + 1) y + 1 := by
  unfold D; rw [List.drop_eq_getElem_cons hx]; exact lip2 _ _ _
theorem D_lip' {a b : List Int} {x y : Nat} (hy : y < b.length) : D a b x y ≤ D a b x (y + 1) + 1 := by
  unfold D; rw [List.drop_eq_getElem_cons hy]; exact lip2' _ _ _
theorem D_lip1 {a b : List Int} {x y : Nat} (hx : x < a.length) : D a b (x + 1) y ≤ D a b x y + 1 := by
  unfold D; rw [List.drop_eq_getElem_cons hx]; exact lip1 _ _ _
theorem D_lip1' {a b : List Int} {x y : Nat} (hy : y < b.length) : D a b x (y + 1) ≤ D a b x y + 1 := by
  unfold D; rw [List.drop_eq_getElem_cons hy]; exact lip1' _ _ _
theorem D_diag {a b : List Int} {x y : Nat} (hx : x < a.length) (hy : y < b.length) : D a b (x + 1) (y + 1) ≤ D a b x y := by
  unfold D; rw [List.drop_eq_getElem_cons hx, List.drop_eq_getElem_cons hy]; exact diag _ _ _ _

def U : Int := 1073741824
/-- place x of diagonal d is one from which e edits suffice -/
def Ok (a b : List Int) (e : Nat) (d : Int) (x : Nat) : Prop := x ≤ a.length ∧ d ≤ x ∧ (x : Int) - d ≤ b.length ∧ D a b x ((x : Int) - d).toNat ≤ e
def Least (a b : List Int) (e : Nat) (d : Int) (r : Int) : Prop := (r = U ∧ ∀ x, ¬ Ok a b e d x) ∨ ∃ x : Nat, r = x ∧ Ok a b e d x ∧ ∀ x', Ok a b e d x' → x ≤ x'
def Slid (a b : List Int) (d : Int) (x r : Nat) : Prop :=
  r ≤ x ∧ (∀ z y : Nat, r ≤ z → z < x → (y : Int) = z - d → ∃ (h : z < a.length) (h' : y < b.length), a[z] = b[y]) ∧
    (r = 0 ∨ (r : Int) - d ≤ 0 ∨ ∀ z y : Nat, z + 1 = r → (y : Int) = z - d → ∀ (h : z < a.length) (h' : y < b.length), a[z] ≠ b[y])

theorem Ok.mono {a b : List Int} {e e' : Nat} {d : Int} {x : Nat} (h : Ok a b e d x) (he : e ≤ e') : Ok a b e' d x := ⟨h.1, h.2.1, h.2.2.1, Nat.le_trans h.2.2.2 he⟩
theorem Ok.mk {a b : List Int} {e : Nat} {d : Int} {x y : Nat} (hx : x ≤ a.length) (hy : y ≤ b.length) (hd : (y : Int) = x - d) (h : D a b x y ≤ e) : Ok a b e d x := by
  refine ⟨hx, by omega, by omega, ?_⟩
  rw [← hd]; simpa using h
theorem Ok.get {a b : List Int} {e : Nat} {d : Int} {x : Nat} (h : Ok a b e d x) : ∃ y : Nat, (y : Int) = x - d ∧ y ≤ b.length ∧ D a b x y ≤ e := by
  obtain ⟨h1, h2, h3, h4⟩ := h
  exact ⟨((x : Int) - d).toNat, by omega, by omega, h4⟩

theorem Least.far {a b : List Int} {e : Nat} {d : Int} (h : d - ((a.length : Int) - b.length) > e ∨ ((a.length : Int) - b.length) - d > e) : Least a b e d U := by
  refine .inl ⟨rfl, fun x hx => ?_⟩
  have h0 := hx.1
  obtain ⟨y, hy, hyb, hD⟩ := hx.get
  have h1 := len_le (a.drop x) (b.drop y)
  have h2 := len_le' (a.drop x) (b.drop y)
  unfold D at hD
  simp only [List.length_drop] at h1 h2
  omega

theorem Least.out {a b : List Int} {e : Nat} {d : Int} (h : d < -b.length ∨ d > a.length) : Least a b e d U := by
  refine .inl ⟨rfl, fun x hx => ?_⟩
  have h0 := hx.1
  obtain ⟨y, hy, hyb, hD⟩ := hx.get
  omega

theorem Least.le {a b : List Int} {e : Nat} {d r : Int} (hl : Least a b e d r) (ha : a.length < 1000000) {x y : Nat} (hx : x ≤ a.length) (hy : y ≤ b.length) (hd : (x : Int) - y = d) : r ≤ x ↔ D a b x y ≤ e := by
  constructor
  · intro h
    rcases hl with ⟨rfl, _⟩ | ⟨z, rfl, hz, hmin⟩
    · unfold U at h; omega
    · obtain ⟨y0, hy0, hyb, hD⟩ := hz.get
      have key : ∀ k, z + k ≤ a.length → y0 + k ≤ b.length → D a b (z + k) (y0 + k) ≤ e := by
        intro k
        induction k with
        | zero => intro _ _; exact hD
        | succ k ih =>
          intro h1 h2
          exact Nat.le_trans (D_diag (x := z + k) (y := y0 + k) (by omega) (by omega)) (ih (by omega) (by omega))
      have := key (x - z) (by omega) (by omega)
      have e1 : z + (x - z) = x := by omega
      have e2 : y0 + (x - z) = y := by omega
      rw [e1, e2] at this
      exact this
  · intro h
    have hok : Ok a b e d x := Ok.mk hx hy (by omega) h
    rcases hl with ⟨rfl, hno⟩ | ⟨z, rfl, hz, hmin⟩
    · exact absurd hok (hno x)
    · have := hmin x hok; omega

theorem Least.nonneg {a b : List Int} {e : Nat} {d r : Int} (hl : Least a b e d r) : 0 ≤ r := by
  rcases hl with ⟨rfl, _⟩ | ⟨z, rfl, _, _⟩
  · unfold U; omega
  · omega
theorem Least.le_U {a b : List Int} {e : Nat} {d r : Int} (hl : Least a b e d r) (ha : a.length < 1000000) : r ≤ U := by
  rcases hl with ⟨rfl, _⟩ | ⟨z, rfl, hz, _⟩
  · exact Int.le_refl _
  · have := hz.1; unfold U; omega

/-- what suffices from a place: one edit less beside it, or the numbers are the same -/
theorem Ok.cases {a b : List Int} {e : Nat} {d : Int} {x : Nat} (h : Ok a b (e + 1) d x) :
    ∃ x', x ≤ x' ∧ (∀ z y : Nat, x ≤ z → z < x' → (y : Int) = z - d → ∃ (h : z < a.length) (h' : y < b.length), a[z] = b[y]) ∧ (Ok a b e d x' ∨ Ok a b e (d + 1) (x' + 1) ∨ Ok a b e (d - 1) x') := by
  have hx := h.1
  generalize hk : a.length - x = k
  induction k generalizing x with
  | zero =>
    obtain ⟨y, hy, hyb, hD⟩ := h.get
    obtain rfl : x = a.length := by omega
    rw [D_end] at hD
    by_cases e1 : y = b.length
    · exact ⟨a.length, Nat.le_refl _, fun z y h1 h2 => by omega, .inl (Ok.mk (Nat.le_refl _) hyb hy (by rw [D_end]; omega))⟩
    · exact ⟨a.length, Nat.le_refl _, fun z y h1 h2 => by omega, .inr (.inr (Ok.mk (y := y + 1) (Nat.le_refl _) (by omega) (by omega) (by rw [D_end]; omega)))⟩
  | succ k ih =>
    obtain ⟨y, hy, hyb, hD⟩ := h.get
    have hxa : x < a.length := by omega
    by_cases e1 : y = b.length
    · subst e1
      rw [D_end'] at hD
      exact ⟨x, Nat.le_refl _, fun z y h1 h2 => by omega, .inr (.inl (Ok.mk (y := b.length) (by omega) (Nat.le_refl _) (by omega) (by rw [D_end']; omega)))⟩
    · have hyl : y < b.length := by omega
      by_cases e2 : a[x] = b[y]
      · rw [D_same hxa hyl e2] at hD
        obtain ⟨x', h1, h2, h3⟩ := ih (Ok.mk (y := y + 1) (by omega) (by omega) (by omega) hD) (by omega) (by omega)
        refine ⟨x', by omega, fun z y2 hz1 hz2 hy2 => ?_, h3⟩
        by_cases e3 : z = x
        · subst e3
          obtain rfl : y2 = y := by omega
          exact ⟨hxa, hyl, e2⟩
        · exact h2 z y2 (by omega) hz2 hy2
      · rw [D_ne hxa hyl e2] at hD
        refine ⟨x, Nat.le_refl _, fun z y h1 h2 => by omega, ?_⟩
        rcases Nat.le_total (D a b (x + 1) y) (D a b x (y + 1)) with hm | hm
        · rw [Nat.min_eq_left hm] at hD
          exact .inr (.inl (Ok.mk (y := y) (by omega) (by omega) (by omega) (by omega)))
        · rw [Nat.min_eq_right hm] at hD
          exact .inr (.inr (Ok.mk (y := y + 1) (by omega) (by omega) (by omega) (by omega)))

theorem Slid.ok {a b : List Int} {e : Nat} {d : Int} {x r : Nat} (hs : Slid a b d x r) (h : Ok a b e d x) (hr : d ≤ r) : Ok a b e d r := by
  obtain ⟨hrx, hm, _⟩ := hs
  have key : ∀ k, k ≤ x - r → Ok a b e d (x - k) := by
    intro k
    induction k with
    | zero => intro _; simpa using h
    | succ k ih =>
      intro hk
      obtain ⟨y, hy, hyb, hD⟩ := (ih (by omega)).get
      obtain ⟨h1, h2, h3⟩ := hm (x - (k + 1)) (y - 1) (by omega) (by omega) (by omega)
      refine Ok.mk (y := y - 1) (by omega) (by omega) (by omega) ?_
      rw [D_same h1 h2 h3]
      have e1 : x - (k + 1) + 1 = x - k := by omega
      have e2 : y - 1 + 1 = y := by omega
      rw [e1, e2]; exact hD
  have := key (x - r) (Nat.le_refl _)
  rwa [show x - (x - r) = r by omega] at this

theorem Slid.stop {a b : List Int} {d : Int} {c r x x' : Nat} (hs : Slid a b d c r) (hx : d ≤ x) (hc : c ≤ x') (hm : ∀ z y : Nat, x ≤ z → z < x' → (y : Int) = z - d → ∃ (h : z < a.length) (h' : y < b.length), a[z] = b[y]) : r ≤ x := by
  obtain ⟨hrx, _, hst⟩ := hs
  apply Classical.byContradiction
  intro hlt
  obtain ⟨h1, h2, h3⟩ := hm (r - 1) ((r : Int) - 1 - d).toNat (by omega) (by omega) (by omega)
  rcases hst with e | e | e
  · omega
  · omega
  · exact e (r - 1) ((r : Int) - 1 - d).toNat (by omega) (by omega) h1 h2 h3

def cand1 (d l0 l1 : Int) : Int := if l1 = U then l0 else min l0 (max (l1 - 1) (max d 0))
def cand2 (d c l2 : Int) : Int := if l2 = U then c else min c (max l2 (max d 0))

/-- one edit more -/
theorem Least.step {a b : List Int} {e : Nat} {d l0 l1 l2 : Int} (ha : a.length < 1000000) (hb : b.length < 1000000) (hd1 : -b.length ≤ d) (hd2 : d ≤ a.length)
    (h0 : Least a b e d l0) (h1 : Least a b e (d + 1) l1) (h2 : Least a b e (d - 1) l2) :
    (cand2 d (cand1 d l0 l1) l2 = U → Least a b (e + 1) d U) ∧
    (cand2 d (cand1 d l0 l1) l2 ≠ U → ∃ x : Nat, cand2 d (cand1 d l0 l1) l2 = x ∧ x ≤ a.length ∧ d ≤ x ∧ (x : Int) - d ≤ b.length ∧ ∀ r, Slid a b d x r → d ≤ r → Least a b (e + 1) d r) := by
  -- every place that suffices is met by a candidate
  have hmeet : ∀ x, Ok a b (e + 1) d x → ∃ x' : Nat, x ≤ x' ∧ cand2 d (cand1 d l0 l1) l2 ≤ x' ∧ (∀ z y : Nat, x ≤ z → z < x' → (y : Int) = z - d → ∃ (h : z < a.length) (h' : y < b.length), a[z] = b[y]) := by
    intro x hx
    obtain ⟨x', hxx, hm, hc⟩ := hx.cases
    have hdx : d ≤ x := hx.2.1
    refine ⟨x', hxx, ?_, hm⟩
    have hA : cand2 d (cand1 d l0 l1) l2 ≤ cand1 d l0 l1 := by unfold cand2; split <;> omega
    rcases hc with hc | hc | hc
    · rcases h0 with ⟨rfl, hno⟩ | ⟨z, rfl, hz, hmin⟩
      · exact absurd hc (hno _)
      · have := hmin _ hc
        have hB : cand1 d z l1 ≤ z := by unfold cand1; split <;> omega
        omega
    · rcases h1 with ⟨rfl, hno⟩ | ⟨z, rfl, hz, hmin⟩
      · exact absurd hc (hno _)
      · have := hmin _ hc
        have hz1 := hz.1
        have hB : cand1 d l0 z ≤ x' := by unfold cand1 U; rw [if_neg (by omega)]; omega
        omega
    · rcases h2 with ⟨rfl, hno⟩ | ⟨z, rfl, hz, hmin⟩
      · exact absurd hc (hno _)
      · have := hmin _ hc
        have hz1 := hz.1
        unfold cand2 U; rw [if_neg (by omega)]; omega
  constructor
  · intro hU
    refine .inl ⟨rfl, fun x hx => ?_⟩
    obtain ⟨x', _, hle, hm⟩ := hmeet x hx
    rw [hU] at hle
    have : (x' : Int) ≤ a.length := by
      apply Classical.byContradiction
      intro hgt
      have hxa := hx.1
      have hdx := hx.2.1
      obtain ⟨h, _⟩ := hm a.length ((a.length : Int) - d).toNat (by omega) (by omega) (by omega)
      omega
    unfold U at hle; omega
  · intro hne
    -- the candidate is a place that suffices
    have hok1 : cand1 d l0 l1 = U ∨ ∃ x : Nat, cand1 d l0 l1 = x ∧ Ok a b (e + 1) d x := by
      have c0 : l0 = U ∨ ∃ x : Nat, l0 = x ∧ Ok a b (e + 1) d x := by
        rcases h0 with ⟨rfl, _⟩ | ⟨z, rfl, hz, _⟩
        · exact .inl rfl
        · exact .inr ⟨z, rfl, hz.mono (by omega)⟩
      unfold cand1
      split
      · exact c0
      · rename_i hl1
        rcases h1 with ⟨rfl, _⟩ | ⟨z, rfl, hz, _⟩
        · exact absurd rfl hl1
        · have hz1 := hz.1
          have hz2 := hz.2.1
          obtain ⟨y, hy, hyb, hD⟩ := hz.get
          have c1 : ∃ x : Nat, max ((z : Int) - 1) (max d 0) = x ∧ Ok a b (e + 1) d x := by
            by_cases hz0 : z = 0
            · subst hz0
              refine ⟨0, by omega, Ok.mk (y := y + 1) (by omega) (by omega) (by omega) ?_⟩
              exact Nat.le_trans (D_lip1' (by omega)) (by omega)
            · refine ⟨z - 1, by omega, Ok.mk (y := y) (by omega) (by omega) (by omega) ?_⟩
              have := D_lip (a := a) (b := b) (x := z - 1) (y := y) (by omega)
              rw [show z - 1 + 1 = z by omega] at this
              omega
          obtain ⟨x1, e1, ok1⟩ := c1
          rw [e1]
          rcases c0 with rfl | ⟨x0, rfl, ok0⟩
          · right; refine ⟨x1, ?_, ok1⟩
            have := ok1.1; unfold U; omega
          · right
            rcases Nat.le_total x0 x1 with hh | hh
            · exact ⟨x0, by omega, ok0⟩
            · exact ⟨x1, by omega, ok1⟩
    have hok : ∃ x : Nat, cand2 d (cand1 d l0 l1) l2 = x ∧ Ok a b (e + 1) d x := by
      generalize cand1 d l0 l1 = c at *
      unfold cand2 at *
      split
      · rename_i hl2
        rw [if_pos hl2] at hne
        rcases hok1 with h | h
        · exact absurd h hne
        · exact h
      · rename_i hl2
        rcases h2 with ⟨rfl, _⟩ | ⟨z, rfl, hz, _⟩
        · exact absurd rfl hl2
        · have hz1 := hz.1
          have hz2 := hz.2.1
          obtain ⟨y, hy, hyb, hD⟩ := hz.get
          have c2 : ∃ x : Nat, max (z : Int) (max d 0) = x ∧ Ok a b (e + 1) d x := by
            by_cases hy0 : y = 0
            · refine ⟨z + 1, by omega, Ok.mk (y := 0) (by omega) (by omega) (by omega) ?_⟩
              subst hy0
              exact Nat.le_trans (D_lip1 (by omega)) (by omega)
            · refine ⟨z, by omega, Ok.mk (y := y - 1) (by omega) (by omega) (by omega) ?_⟩
              have := D_lip' (a := a) (b := b) (x := z) (y := y - 1) (by omega)
              rw [show y - 1 + 1 = y by omega] at this
              omega
          obtain ⟨x2, e2, ok2⟩ := c2
          rw [e2]
          rcases hok1 with rfl | ⟨x0, rfl, ok0⟩
          · refine ⟨x2, ?_, ok2⟩
            have := ok2.1; unfold U; omega
          · rcases Nat.le_total x0 x2 with hh | hh
            · exact ⟨x0, by omega, ok0⟩
            · exact ⟨x2, by omega, ok2⟩
    obtain ⟨x, hx, ok⟩ := hok
    refine ⟨x, hx, ok.1, ok.2.1, ok.2.2.1, fun r hs hr => .inr ⟨r, rfl, hs.ok ok hr, fun x2 hx2 => ?_⟩⟩
    obtain ⟨x', h1', h2', hm⟩ := hmeet x2 hx2
    rw [hx] at h2'
    exact hs.stop hx2.2.1 (by omega) hm

/-- no edits: the end alone -/
theorem Least.first {a b : List Int} {d : Int} (hd : d = (a.length : Int) - b.length) {r : Nat} (hs : Slid a b d a.length r) (hr : d ≤ r) : Least a b 0 d r := by
  have ok : Ok a b 0 d a.length := Ok.mk (y := b.length) (Nat.le_refl _) (Nat.le_refl _) (by omega) (by rw [D_end]; omega)
  refine .inr ⟨r, rfl, hs.ok ok hr, fun x hx => ?_⟩
  refine hs.stop hx.2.1 (Nat.le_refl _) (fun z y h1 h2 h3 => ?_)
  -- no edits: all that is left is the same
  have key : ∀ k x y, x + k = a.length → y + k = b.length → D a b x y ≤ 0 → ∀ i, i < k → ∃ (h : x + i < a.length) (h' : y + i < b.length), a[x + i] = b[y + i] := by
    intro k
    induction k with
    | zero => intro x y _ _ _ i hi; omega
    | succ k ih =>
      intro x y hx hy hD i hi
      by_cases e : a[x] = b[y]
      · rw [D_same (by omega) (by omega) e] at hD
        by_cases e0 : i = 0
        · subst e0; exact ⟨by omega, by omega, e⟩
        · obtain ⟨g1, g2, g3⟩ := ih (x + 1) (y + 1) (by omega) (by omega) hD (i - 1) (by omega)
          refine ⟨by omega, by omega, ?_⟩
          have e1 : x + 1 + (i - 1) = x + i := by omega
          have e2 : y + 1 + (i - 1) = y + i := by omega
          simp only [e1, e2] at g3
          exact g3
      · rw [D_ne (by omega) (by omega) e] at hD; omega
  have hxa := hx.1
  obtain ⟨y0, hy0, hyb, hD⟩ := hx.get
  obtain ⟨g1, g2, g3⟩ := key (a.length - x) x y0 (by omega) (by omega) hD (z - x) (by omega)
  refine ⟨by omega, by omega, ?_⟩
  have e1 : x + (z - x) = z := by omega
  have e2 : y0 + (z - x) = y := by omega
  simp only [e1, e2] at g3
  exact g3

theorem Least.first_no {a b : List Int} {d : Int} (hd : d ≠ (a.length : Int) - b.length) : Least a b 0 d U := Least.far (by omega)

end Go.Proofs.Ytlilamlolnkboaa.My
