/- A stable sort by blocks, in plain Lean: what moves of runs, searches by halves and merges by turning give, where the runs are told apart by one strict order. No program. -/
import Derived.Sort.LotA
namespace StS
open Go.Sort
variable {α : Type} [Inhabited α]

/-! ### Runs that change places -/
def swpRange (d : Array α) (a b : Nat) : Nat → Array α
  | 0 => d
  | n + 1 => swp (swpRange d a b n) (a + n) (b + n)
theorem swpRange_size (d : Array α) (a b n : Nat) : (swpRange d a b n).size = d.size := by
  induction n with
  | zero => rfl
  | succ n ih => rw [swpRange, swp_size, ih]
theorem swpRange_get (d : Array α) (a b n : Nat) (hab : a + n ≤ b) (hb : b + n ≤ d.size) (x : Nat) :
    (swpRange d a b n)[x]! = if a ≤ x ∧ x < a + n then d[x + (b - a)]! else if b ≤ x ∧ x < b + n then d[x - (b - a)]! else d[x]! := by
  induction n generalizing x with
  | zero => rw [swpRange, if_neg (by omega), if_neg (by omega)]
  | succ n ih =>
    have hs := swpRange_size d a b n
    have ih' := fun x => ih (by omega) (by omega) x
    rw [swpRange, swp_get _ (by omega) (by omega)]
    by_cases h1 : x = b + n
    · subst h1
      rw [if_pos rfl, ih', if_neg (by omega), if_neg (by omega), if_neg (by omega), if_pos (by omega)]
      congr 1; omega
    · rw [if_neg h1]
      by_cases h2 : x = a + n
      · subst h2
        rw [if_pos rfl, ih', if_neg (by omega), if_neg (by omega), if_pos (by omega)]
        congr 1; omega
      · rw [if_neg h2, ih']
        repeat' split
        all_goals first
          | rfl
          | (exfalso; omega)
          | (congr 1; omega)
theorem swpRange_perm (d : Array α) (a b n lo hi : Nat) (hlo : lo ≤ a) (hab : a + n ≤ b) (hb : b + n ≤ hi) (hh : hi ≤ d.size) : PermIn lo hi d (swpRange d a b n) := by
  induction n with
  | zero => exact permIn_refl _ _ _
  | succ n ih =>
    refine permIn_trans _ _ _ _ _ (ih (by omega) (by omega)) ?_
    rw [swpRange]
    exact swp_permIn _ _ _ _ _ (by omega) (by omega) (by omega) (by omega) (by rw [swpRange_size]; exact hh)

/-- What stands at x where [a, m) and [m, b) have changed places. -/
def turned (d : Array α) (a m b x : Nat) : α := if a ≤ x ∧ x < a + (b - m) then d[x + (m - a)]! else if a + (b - m) ≤ x ∧ x < b then d[x - (b - m)]! else d[x]!

theorem turned_left (d : Array α) (m i j x : Nat) (him : i ≤ m) (hj : j < i) (hj0 : 0 < j) (hsz : m + j ≤ d.size) : turned (swpRange d (m - i) m j) (m - i + j) m (m + j) x = turned d (m - i) m (m + j) x := by
  have g := swpRange_get d (m - i) m j (by omega) hsz
  unfold turned
  simp only [g]
  repeat' split
  all_goals first
    | rfl
    | (exfalso; omega)
    | (congr 1; omega)
theorem turned_right (d : Array α) (m i j x : Nat) (him : i ≤ m) (hj : i < j) (hi0 : 0 < i) (hsz : m + j ≤ d.size) : turned (swpRange d (m - i) (m + j - i) i) (m - i) m (m + (j - i)) x = turned d (m - i) m (m + j) x := by
  have g := swpRange_get d (m - i) (m + j - i) i (by omega) (by omega)
  unfold turned
  simp only [g]
  repeat' split
  all_goals first
    | rfl
    | (exfalso; omega)
    | (congr 1; omega)
theorem turned_last (d : Array α) (m i x : Nat) (him : i ≤ m) (hsz : m + i ≤ d.size) : (swpRange d (m - i) m i)[x]! = turned d (m - i) m (m + i) x := by
  rw [swpRange_get d (m - i) m i (by omega) hsz]
  unfold turned
  repeat' split
  all_goals first
    | rfl
    | (exfalso; omega)
    | (congr 1; omega)

/-- The runs have changed places. -/
def Turned (d : Array α) (a m b : Nat) (d' : Array α) : Prop := PermIn a b d d' ∧ ∀ x, d'[x]! = turned d a m b x
/-- On the way: what is left to turn is [m - i, m + j). -/
def Turning (d : Array α) (a m b i j : Nat) (dk : Array α) : Prop := 0 < i ∧ 0 < j ∧ i ≤ m - a ∧ j ≤ b - m ∧ PermIn a b d dk ∧ ∀ x, turned dk (m - i) m (m + j) x = turned d a m b x
theorem turning_start (d : Array α) (a m b : Nat) (ha : a < m) (hb : m < b) : Turning d a m b (m - a) (b - m) d :=
  ⟨by omega, by omega, by omega, by omega, permIn_refl _ _ _, fun x => by rw [show m - (m - a) = a by omega, show m + (b - m) = b by omega]⟩
theorem turning_left {d : Array α} {a m b i j : Nat} {dk : Array α} (h : Turning d a m b i j dk) (hm : a < m) (hmb : m < b) (hb : b ≤ d.size) (hj : j < i) : Turning d a m b (i - j) j (swpRange dk (m - i) m j) := by
  obtain ⟨h1, h2, h3, h4, h5, h6⟩ := h
  have hs : dk.size = d.size := h5.1
  refine ⟨by omega, h2, by omega, h4, permIn_trans _ _ _ _ _ h5 (swpRange_perm dk (m - i) m j a b (by omega) (by omega) (by omega) (by omega)), fun x => ?_⟩
  rw [show m - (i - j) = m - i + j by omega, turned_left dk m i j x (by omega) hj h2 (by omega)]
  exact h6 x
theorem turning_right {d : Array α} {a m b i j : Nat} {dk : Array α} (h : Turning d a m b i j dk) (hm : a < m) (hmb : m < b) (hb : b ≤ d.size) (hj : i < j) : Turning d a m b i (j - i) (swpRange dk (m - i) (m + j - i) i) := by
  obtain ⟨h1, h2, h3, h4, h5, h6⟩ := h
  have hs : dk.size = d.size := h5.1
  refine ⟨h1, by omega, h3, by omega, permIn_trans _ _ _ _ _ h5 (swpRange_perm dk (m - i) (m + j - i) i a b (by omega) (by omega) (by omega) (by omega)), fun x => ?_⟩
  rw [turned_right dk m i j x (by omega) hj h1 (by omega)]
  exact h6 x
theorem turning_last {d : Array α} {a m b i : Nat} {dk : Array α} (h : Turning d a m b i i dk) (hm : a < m) (hmb : m < b) (hb : b ≤ d.size) : Turned d a m b (swpRange dk (m - i) m i) := by
  obtain ⟨h1, h2, h3, h4, h5, h6⟩ := h
  have hs : dk.size = d.size := h5.1
  refine ⟨permIn_trans _ _ _ _ _ h5 (swpRange_perm dk (m - i) m i a b (by omega) (by omega) (by omega) (by omega)), fun x => ?_⟩
  rw [turned_last dk m i x (by omega) (by omega)]
  exact h6 x

/-! ### Runs that are told apart by one order -/
variable (lt s : α → α → Bool)
/-- A strict order of all. -/
structure Tot : Prop where
  irrefl : ∀ x, s x x = false
  trans : ∀ x y z, s x y = true → s y z = true → s x z = true
  tot : ∀ x y, s x y = false → s y x = false → x = y
variable {s}
omit [Inhabited α] in
theorem Tot.swo (T : Tot s) : SWO s where
  irrefl := T.irrefl
  trans := T.trans
  ntrans x y z h1 h2 := by
    cases h : s x z with
    | false => rfl
    | true =>
      cases h3 : s y x with
      | true => have := T.trans _ _ _ h3 h; rw [h2] at this; cases this
      | false =>
        have := T.tot _ _ h1 h3
        subst this; rw [h] at h2; cases h2
variable (s)
/-- The first less than the second is what s says, where the first stands in the run behind. -/
def Ag (a m b : Nat) (d : Array α) : Prop := ∀ p q, a ≤ p → p < m → m ≤ q → q < b → lt d[q]! d[p]! = s d[q]! d[p]!
/-- .. of any two in one run. -/
def AgIn (a b : Nat) (d : Array α) : Prop := ∀ p q, a ≤ p → p < q → q < b → lt d[q]! d[p]! = s d[q]! d[p]!
variable {lt s}
theorem AgIn.split {a b m : Nat} {d : Array α} (h : AgIn lt s a b d) (_ : m ≤ b) : Ag lt s a m b d := fun p q h1 h2 h3 h4 => h p q h1 (by omega) h4
theorem AgIn.mono {a b a' b' : Nat} {d : Array α} (h : AgIn lt s a b d) (ha : a ≤ a') (hb : b' ≤ b) : AgIn lt s a' b' d := fun p q h1 h2 h3 => h p q (by omega) h2 (by omega)
theorem Ag.mono {a m b a' b' : Nat} {d : Array α} (h : Ag lt s a m b d) (ha : a ≤ a') (hb : b' ≤ b) : Ag lt s a' m b' d := fun p q h1 h2 h3 h4 => h p q (by omega) h2 h3 (by omega)
/-- Where the runs are permuted each for itself. -/
theorem Ag.perm_left {a m b : Nat} {d d' : Array α} (h : Ag lt s a m b d) (hm : m ≤ d.size) (hP : PermIn a m d d') : Ag lt s a m b d' := by
  intro p q h1 h2 h3 h4
  rw [hP.2.1 q (.inr h3)]
  exact permIn_all d d' a m (fun x => lt d[q]! x = s d[q]! x) hm hP (fun i hi hi' => h i q hi hi' h3 h4) p h1 h2
theorem Ag.perm_right {a m b : Nat} {d d' : Array α} (h : Ag lt s a m b d) (hb : b ≤ d.size) (hP : PermIn m b d d') : Ag lt s a m b d' := by
  intro p q h1 h2 h3 h4
  rw [hP.2.1 p (.inl h2)]
  exact permIn_all d d' m b (fun x => lt x d[p]! = s x d[p]!) hb hP (fun i hi hi' => h p i h1 h2 hi hi') q h3 h4
theorem Ag.far {a m b : Nat} {d d' : Array α} (h : Ag lt s a m b d) (he : ∀ i, a ≤ i → i < b → d'[i]! = d[i]!) : Ag lt s a m b d' := by
  intro p q h1 h2 h3 h4
  rw [he p h1 (by omega), he q (by omega) h4]
  exact h p q h1 h2 h3 h4

/-! ### The sort of a block -/
theorem insOuter_go (lt : α → α → Bool) (a b i : Nat) (d : Array α) (h : i < b) : insOuter lt a b i d = insOuter lt a b (i + 1) (insInner lt a i d) := by rw [insOuter, if_pos h]
theorem insInner_ag (a : Nat) : ∀ (j : Nat) (d : Array α), j < d.size → (∀ p, a ≤ p → p < j → lt d[j]! d[p]! = s d[j]! d[p]!) → insInner lt a j d = insInner s a j d
  | 0, d, _, _ => rfl
  | j + 1, d, hj, h => by
    unfold insInner
    by_cases ha : j + 1 > a
    · rw [h j (by omega) (by omega)]
      split
      · have g := swp_get d hj (show j < d.size by omega)
        refine insInner_ag a j _ (by rw [swp_size]; omega) fun p hp hpj => ?_
        rw [g, g, if_pos rfl, if_neg (by omega), if_neg (by omega)]
        exact h p hp (by omega)
      · rfl
    · have e : decide (j + 1 > a) = false := decide_eq_false ha
      rw [e]; rfl
theorem insOuter_ag (T : Tot s) (a b : Nat) : ∀ (n i : Nat) (d : Array α), b - i = n → a < i → b ≤ d.size → (∀ p q, a ≤ p → p < q → i ≤ q → q < b → lt d[q]! d[p]! = s d[q]! d[p]!) → SortedIn s a i d → insOuter lt a b i d = insOuter s a b i d
  | 0, i, d, hn, _, _, _, _ => by rw [insOuter, if_neg (by omega), insOuter, if_neg (by omega)]
  | n + 1, i, d, hn, hai, hb, h, hs => by
    have hlt : i < b := by omega
    rw [insOuter_go _ _ _ _ _ hlt, insOuter_go _ _ _ _ _ hlt, insInner_ag a i d (by omega) fun p hp hpi => h p i hp hpi (Nat.le_refl _) hlt]
    have h1 := insInner_spec T.swo swp_permIn permIn_refl permIn_trans a (i + 1) i (by omega) i d (by omega) (Nat.le_refl _) (by omega) ⟨fun p q hap hpq hqi _ hq => hs p q hap hpq (by omega), fun q h1 h2 => by omega⟩
    refine insOuter_ag T a b n (i + 1) _ (by omega) (by omega) (by rw [h1.1.1]; exact hb) (fun p q hp hpq hq hqb => ?_) h1.2
    rw [h1.1.2.1 q (.inr hq)]
    by_cases hpi : p < i + 1
    · exact permIn_all d _ a (i + 1) (fun x => lt d[q]! x = s d[q]! x) (by omega) h1.1 (fun i' hi hi' => h i' q hi (by omega) (by omega) hqb) p hp hpi
    · rw [h1.1.2.1 p (.inr (by omega))]
      exact h p q hp hpq (by omega) hqb
theorem insertion_ag (T : Tot s) (d : Array α) (a b : Nat) (hab : a ≤ b) (hb : b ≤ d.size) (h : AgIn lt s a b d) : PermIn a b d (insertionSort lt d a b) ∧ SortedIn s a b (insertionSort lt d a b) := by
  have e : insertionSort lt d a b = insertionSort s d a b := by
    unfold insertionSort
    exact insOuter_ag T a b _ (a + 1) d rfl (by omega) hb (fun p q h1 h2 _ h4 => h p q h1 h2 h4) fun p q h1 h2 h3 => by omega
  rw [e]
  exact insertionSort_holds T.swo d a b hab hb

/-! ### One that is put into a run -/
/-- [a, b) behind the one at a went to the place k: the ones between are one place down. -/
def sunk (d : Array α) (a : Nat) : Nat → Array α
  | 0 => d
  | n + 1 => swp (sunk d a n) (a + n) (a + n + 1)
theorem sunk_size (d : Array α) (a n : Nat) : (sunk d a n).size = d.size := by
  induction n with
  | zero => rfl
  | succ n ih => rw [sunk, swp_size, ih]
theorem sunk_get (d : Array α) (a n : Nat) (h : a + n < d.size) (x : Nat) : (sunk d a n)[x]! = if x = a + n then d[a]! else if a ≤ x ∧ x < a + n then d[x + 1]! else d[x]! := by
  induction n generalizing x with
  | zero =>
    rw [sunk]
    by_cases hx : x = a
    · subst hx; simp
    · rw [if_neg (by omega), if_neg (by omega)]
  | succ n ih =>
    have hs := sunk_size d a n
    have ih' := fun x => ih (by omega) x
    rw [sunk, swp_get _ (by omega) (by omega)]
    by_cases h1 : x = a + n + 1
    · subst h1; rw [if_pos rfl, ih', if_pos rfl, if_pos (by omega)]
    · rw [if_neg h1]
      by_cases h2 : x = a + n
      · subst h2; rw [if_pos rfl, ih', if_neg (by omega), if_neg (by omega), if_neg (by omega), if_pos (by omega)]
      · rw [if_neg h2, ih']
        repeat' split
        all_goals first
          | rfl
          | (exfalso; omega)
          | (congr 1; omega)
theorem sunk_perm (d : Array α) (a n lo hi : Nat) (hlo : lo ≤ a) (hh : a + n < hi) (hs : hi ≤ d.size) : PermIn lo hi d (sunk d a n) := by
  induction n with
  | zero => exact permIn_refl _ _ _
  | succ n ih => exact permIn_trans _ _ _ _ _ (ih (by omega)) (swp_permIn _ _ _ _ _ (by omega) (by omega) (by omega) (by omega) (by rw [sunk_size]; exact hs))
/-- The first run is one: it is put where the search stopped. -/
theorem sunk_sorted (T : Tot s) (d : Array α) (a b i : Nat) (hi : a + 1 ≤ i) (hib : i ≤ b) (hb : b ≤ d.size) (hs : SortedIn s (a + 1) b d) (hag : Ag lt s a (a + 1) b d)
    (hl : i = a + 1 ∨ lt d[i - 1]! d[a]! = true) (hr : i = b ∨ lt d[i]! d[a]! = false) : SortedIn s a b (sunk d a (i - 1 - a)) := by
  have g := sunk_get d a (i - 1 - a) (by omega)
  have lo : ∀ q, a + 1 ≤ q → q < i → s d[a]! d[q]! = false := by
    intro q h1 h2
    rcases hl with hl | hl
    · omega
    · rw [hag a (i - 1) (by omega) (by omega) (by omega) (by omega)] at hl
      by_cases e : q = i - 1
      · subst e; exact T.swo.asymmA hl
      · have := hs q (i - 1) h1 (by omega) (by omega)
        exact T.swo.ntrans _ _ _ (T.swo.asymmA hl) this
  have up : ∀ q, i ≤ q → q < b → s d[q]! d[a]! = false := by
    intro q h1 h2
    rcases hr with hr | hr
    · omega
    · rw [hag a i (by omega) (by omega) (by omega) (by omega)] at hr
      by_cases e : q = i
      · subst e; exact hr
      · exact T.swo.ntrans _ _ _ (hs i q (by omega) (by omega) h2) hr
  intro p q h1 h2 h3
  rw [g p, g q]
  by_cases hq : q = a + (i - 1 - a)
  · rw [if_pos hq, if_neg (by omega), if_pos (by omega)]
    exact lo _ (by omega) (by omega)
  · rw [if_neg hq]
    by_cases hp : p = a + (i - 1 - a)
    · rw [if_pos hp, if_neg (by omega)]
      exact up _ (by omega) (by omega)
    · rw [if_neg hp]
      by_cases hq2 : a ≤ q ∧ q < a + (i - 1 - a)
      · rw [if_pos hq2, if_pos (by omega)]
        exact hs _ _ (by omega) (by omega) (by omega)
      · rw [if_neg hq2]
        by_cases hp2 : a ≤ p ∧ p < a + (i - 1 - a)
        · rw [if_pos hp2]; exact hs _ _ (by omega) (by omega) (by omega)
        · rw [if_neg hp2]; exact hs _ _ (by omega) (by omega) (by omega)

/-- .. the one at m goes down to the place i. -/
def risen (d : Array α) (m : Nat) : Nat → Array α
  | 0 => d
  | n + 1 => swp (risen d m n) (m - n) (m - n - 1)
theorem risen_size (d : Array α) (m n : Nat) : (risen d m n).size = d.size := by
  induction n with
  | zero => rfl
  | succ n ih => rw [risen, swp_size, ih]
theorem risen_get (d : Array α) (m n : Nat) (h : m < d.size) (hn : n ≤ m) (x : Nat) : (risen d m n)[x]! = if x = m - n then d[m]! else if m - n < x ∧ x ≤ m then d[x - 1]! else d[x]! := by
  induction n generalizing x with
  | zero =>
    rw [risen]
    by_cases hx : x = m
    · subst hx; simp
    · rw [if_neg (by omega), if_neg (by omega)]
  | succ n ih =>
    have hs := risen_size d m n
    have ih' := fun x => ih (by omega) x
    rw [risen, swp_get _ (by omega) (by omega)]
    by_cases h1 : x = m - n - 1
    · rw [if_pos h1, ih', if_pos rfl, if_pos (by omega)]
    · rw [if_neg h1]
      by_cases h2 : x = m - n
      · rw [if_pos h2, ih', if_neg (by omega), if_neg (by omega), if_neg (by omega), if_pos (by omega)]
        congr 1; omega
      · rw [if_neg h2, ih']
        repeat' split
        all_goals first
          | rfl
          | (exfalso; omega)
          | (congr 1; omega)
theorem risen_perm (d : Array α) (m n lo hi : Nat) (hn : n ≤ m) (hlo : lo ≤ m - n) (hh : m < hi) (hs : hi ≤ d.size) : PermIn lo hi d (risen d m n) := by
  induction n with
  | zero => exact permIn_refl _ _ _
  | succ n ih => exact permIn_trans _ _ _ _ _ (ih (by omega) (by omega)) (swp_permIn _ _ _ _ _ (by omega) (by omega) (by omega) (by omega) (by rw [risen_size]; exact hs))
theorem risen_sorted (T : Tot s) (d : Array α) (a m i : Nat) (ha : a ≤ i) (him : i ≤ m) (hb : m + 1 ≤ d.size) (hs : SortedIn s a m d) (hag : Ag lt s a m (m + 1) d)
    (hl : i = a ∨ lt d[m]! d[i - 1]! = false) (hr : i = m ∨ lt d[m]! d[i]! = true) : SortedIn s a (m + 1) (risen d m (m - i)) := by
  have g := risen_get d m (m - i) (by omega) (by omega)
  have lo : ∀ q, a ≤ q → q < i → s d[m]! d[q]! = false := by
    intro q h1 h2
    rcases hl with hl | hl
    · omega
    · rw [hag (i - 1) m (by omega) (by omega) (by omega) (by omega)] at hl
      by_cases e : q = i - 1
      · subst e; exact hl
      · exact T.swo.ntrans _ _ _ hl (hs q (i - 1) h1 (by omega) (by omega))
  have up : ∀ q, i ≤ q → q < m → s d[q]! d[m]! = false := by
    intro q h1 h2
    rcases hr with hr | hr
    · omega
    · rw [hag i m (by omega) (by omega) (by omega) (by omega)] at hr
      by_cases e : q = i
      · subst e; exact T.swo.asymmA hr
      · exact T.swo.ntrans _ _ _ (hs i q (by omega) (by omega) h2) (T.swo.asymmA hr)
  intro p q h1 h2 h3
  rw [g p, g q]
  by_cases hq : q = m - (m - i)
  · rw [if_pos hq, if_neg (by omega), if_neg (by omega)]
    exact lo _ (by omega) (by omega)
  · rw [if_neg hq]
    by_cases hp : p = m - (m - i)
    · rw [if_pos hp, if_pos (by omega)]
      exact up _ (by omega) (by omega)
    · rw [if_neg hp]
      by_cases hq2 : m - (m - i) < q ∧ q ≤ m
      · rw [if_pos hq2]
        by_cases hp2 : m - (m - i) < p ∧ p ≤ m
        · rw [if_pos hp2]; exact hs _ _ (by omega) (by omega) (by omega)
        · rw [if_neg hp2]; exact hs _ _ (by omega) (by omega) (by omega)
      · rw [if_neg hq2, if_neg (by omega)]
        exact hs _ _ (by omega) (by omega) (by omega)

/-! ### Two runs that are merged -/
/-- What one merge is told. -/
structure Runs (lt s : α → α → Bool) (a m b : Nat) (d : Array α) : Prop where
  am : a < m
  mb : m < b
  bs : b ≤ d.size
  left : SortedIn s a m d
  right : SortedIn s m b d
  ag : Ag lt s a m b d
/-- What it gives. -/
def Merged (s : α → α → Bool) (a b : Nat) (d d' : Array α) : Prop := PermIn a b d d' ∧ SortedIn s a b d'

/-- Where the search by halves began, and where it may end. -/
def lo (a m b : Nat) : Nat := if (a + b) / 2 < m then (a + b) / 2 + m - b else a
def hi (a m b : Nat) : Nat := if (a + b) / 2 < m then (a + b) / 2 else m
/-- The search has stopped at 'st': what stands at its left is not more than its mate, what stands there is more. -/
def Cut (lt : α → α → Bool) (a m b st : Nat) (d : Array α) : Prop :=
  lo a m b ≤ st ∧ st ≤ hi a m b ∧ (st = lo a m b ∨ lt d[(a + b) / 2 + m - 1 - (st - 1)]! d[st - 1]! = false) ∧ (st = hi a m b ∨ lt d[(a + b) / 2 + m - 1 - st]! d[st]! = true)

/-- The four parts: what is in the lower half is less than what is in the upper one. -/
theorem cut_parts (T : Tot s) {a m b st : Nat} {d : Array α} (R : Runs lt s a m b d) (hc : Cut lt a m b st d) :
    a ≤ st ∧ st ≤ m ∧ st ≤ (a + b) / 2 ∧ (a + b) / 2 + m - st ≤ b ∧ m ≤ (a + b) / 2 + m - st ∧
      (∀ p q, a ≤ p → p < st → (a + b) / 2 + m - st ≤ q → q < b → s d[q]! d[p]! = false) ∧
      (∀ p q, m ≤ p → p < (a + b) / 2 + m - st → st ≤ q → q < m → s d[q]! d[p]! = false) := by
  obtain ⟨am, mb, bs, hL, hR, ag⟩ := R
  obtain ⟨h1, h2, h3, h4⟩ := hc
  unfold lo at h1 h3
  unfold hi at h2 h4
  have b1 : a ≤ st := by split at h1 <;> omega
  have b2 : st ≤ m := by split at h2 <;> omega
  have b3 : st ≤ (a + b) / 2 := by split at h2 <;> omega
  have b4 : (a + b) / 2 + m - st ≤ b := by split at h1 <;> omega
  refine ⟨b1, b2, b3, b4, by omega, ?_, ?_⟩
  · intro p q p1 p2 q1 q2
    have hk : s d[(a + b) / 2 + m - st]! d[st - 1]! = false := by
      rcases h3 with h3 | h3
      · split at h3 <;> omega
      · rw [show (a + b) / 2 + m - 1 - (st - 1) = (a + b) / 2 + m - st by omega] at h3
        rw [← ag (st - 1) _ (by omega) (by omega) (by omega) (by omega)]; exact h3
    have hq : s d[q]! d[st - 1]! = false := by
      by_cases e : q = (a + b) / 2 + m - st
      · rw [e]; exact hk
      · exact T.swo.ntrans _ _ _ (hR _ q (by omega) (by omega) q2) hk
    by_cases e : p = st - 1
    · rw [e]; exact hq
    · exact T.swo.ntrans _ _ _ hq (hL p (st - 1) p1 (by omega) (by omega))
  · intro p q p1 p2 q1 q2
    have hk : s d[st]! d[(a + b) / 2 + m - 1 - st]! = false := by
      rcases h4 with h4 | h4
      · split at h4 <;> omega
      · rw [ag st _ (by omega) (by omega) (by omega) (by omega)] at h4
        exact T.swo.asymmA h4
    have hq : s d[st]! d[p]! = false := by
      by_cases e : p = (a + b) / 2 + m - 1 - st
      · rw [e]; exact hk
      · exact T.swo.ntrans _ _ _ hk (hR p _ p1 (by omega) (by omega))
    by_cases e : q = st
    · rw [e]; exact hq
    · exact T.swo.ntrans _ _ _ (hL st q (by omega) (by omega) q2) hq

/-- Behind the turn (or where there was none to be done): the halves, each of two runs, and all of the lower one not more than all of the upper one. -/
structure Halves (lt s : α → α → Bool) (a m b st : Nat) (d d1 : Array α) : Prop where
  perm : PermIn a b d d1
  ll : SortedIn s a st d1
  lr : SortedIn s st ((a + b) / 2) d1
  ul : SortedIn s ((a + b) / 2) ((a + b) / 2 + m - st) d1
  ur : SortedIn s ((a + b) / 2 + m - st) b d1
  agl : Ag lt s a st ((a + b) / 2) d1
  agu : Ag lt s ((a + b) / 2) ((a + b) / 2 + m - st) b d1
  cross : ∀ p q, a ≤ p → p < (a + b) / 2 → (a + b) / 2 ≤ q → q < b → s d1[q]! d1[p]! = false
theorem halves_of (T : Tot s) {a m b st : Nat} {d d1 : Array α} (R : Runs lt s a m b d) (hc : Cut lt a m b st d) (hP : PermIn a b d d1) (ht : ∀ x, d1[x]! = turned d st m ((a + b) / 2 + m - st) x) : Halves lt s a m b st d d1 := by
  obtain ⟨b1, b2, b3, b4, b5, c1, c2⟩ := cut_parts T R hc
  obtain ⟨am, mb, bs, hL, hR, ag⟩ := R
  have g : ∀ x, d1[x]! = if x < st then d[x]! else if x < (a + b) / 2 then d[x + (m - st)]! else if x < (a + b) / 2 + m - st then d[x - ((a + b) / 2 - st)]! else d[x]! := by
    intro x
    rw [ht]; unfold turned
    repeat' split
    all_goals first
      | rfl
      | (exfalso; omega)
      | (congr 1; omega)
  clear ht hc
  refine ⟨hP, ?_, ?_, ?_, ?_, ?_, ?_, ?_⟩
  · intro p q h1 h2 h3
    rw [g p, g q, if_pos (by omega), if_pos (by omega)]
    exact hL p q h1 h2 (by omega)
  · intro p q h1 h2 h3
    rw [g p, g q, if_neg (by omega), if_pos (by omega), if_neg (by omega), if_pos (by omega)]
    exact hR _ _ (by omega) (by omega) (by omega)
  · intro p q h1 h2 h3
    rw [g p, g q, if_neg (by omega), if_neg (by omega), if_pos (by omega), if_neg (by omega), if_neg (by omega), if_pos (by omega)]
    exact hL _ _ (by omega) (by omega) (by omega)
  · intro p q h1 h2 h3
    rw [g p, g q, if_neg (by omega), if_neg (by omega), if_neg (by omega), if_neg (by omega), if_neg (by omega), if_neg (by omega)]
    exact hR _ _ (by omega) (by omega) (by omega)
  · intro p q h1 h2 h3 h4
    rw [g q, if_neg (by omega), if_pos (by omega), g p, if_pos (by omega)]
    exact ag _ _ (by omega) (by omega) (by omega) (by omega)
  · intro p q h1 h2 h3 h4
    rw [g q, if_neg (by omega), if_neg (by omega), if_neg (by omega), g p, if_neg (by omega), if_neg (by omega), if_pos (by omega)]
    exact ag _ _ (by omega) (by omega) (by omega) (by omega)
  · intro p q h1 h2 h3 h4
    rw [g p, g q]
    by_cases hp : p < st
    · rw [if_pos hp, if_neg (by omega), if_neg (by omega)]
      by_cases hq : q < (a + b) / 2 + m - st
      · rw [if_pos hq]; exact hL _ _ (by omega) (by omega) (by omega)
      · rw [if_neg hq]; exact c1 _ _ (by omega) (by omega) (by omega) (by omega)
    · rw [if_neg hp, if_pos (show p < (a + b) / 2 by omega), if_neg (show ¬ q < st by omega), if_neg (show ¬ q < (a + b) / 2 by omega)]
      by_cases hq : q < (a + b) / 2 + m - st
      · rw [if_pos hq]; exact c2 _ _ (by omega) (by omega) (by omega) (by omega)
      · rw [if_neg hq]; exact hR _ _ (by omega) (by omega) (by omega)
/-- No turn to be done: one of the two runs in the middle is empty. -/
theorem turned_none (d : Array α) (st m e x : Nat) (h : ¬ (st < m ∧ m < e)) (hm : st ≤ m) (he : m ≤ e) : d[x]! = turned d st m e x := by
  unfold turned
  repeat' split
  all_goals first
    | rfl
    | (exfalso; omega)
    | (congr 1; omega)
/-- The lower half's runs. -/
theorem Halves.lower {a m b st : Nat} {d d1 : Array α} (H : Halves lt s a m b st d d1) (hb : b ≤ d.size) (h1 : a < st) (h2 : st < (a + b) / 2) (_h3 : (a + b) / 2 ≤ b) : Runs lt s a st ((a + b) / 2) d1 :=
  ⟨h1, h2, by have := H.perm.1; omega, H.ll, H.lr, H.agl⟩
/-- It is in order as it stands, where there is no merge to be done. -/
theorem Halves.lower_done {a m b st : Nat} {d d1 : Array α} (H : Halves lt s a m b st d d1) (h : ¬ (a < st ∧ st < (a + b) / 2)) (h1 : a ≤ st) (h2 : st ≤ (a + b) / 2) : SortedIn s a ((a + b) / 2) d1 := by
  by_cases e : st = a
  · have := H.lr; rw [e] at this; exact this
  · have h3 : st = (a + b) / 2 := by omega
    have := H.ll; rw [h3] at this; exact this
/-- Behind the lower half's merge. -/
theorem Halves.step {a m b st : Nat} {d d1 d2 : Array α} (H : Halves lt s a m b st d d1) (hb : b ≤ d.size) (ham : a ≤ (a + b) / 2) (hmb : (a + b) / 2 ≤ b) (hst : st ≤ m) (hM : Merged s a ((a + b) / 2) d1 d2) :
    PermIn a b d d2 ∧ SortedIn s a ((a + b) / 2) d2 ∧ SortedIn s ((a + b) / 2) ((a + b) / 2 + m - st) d2 ∧ SortedIn s ((a + b) / 2 + m - st) b d2 ∧ Ag lt s ((a + b) / 2) ((a + b) / 2 + m - st) b d2 ∧
      (∀ p q, a ≤ p → p < (a + b) / 2 → (a + b) / 2 ≤ q → q < b → s d2[q]! d2[p]! = false) := by
  obtain ⟨hP, hS⟩ := hM
  have hs := H.perm.1
  have e : ∀ x, (a + b) / 2 ≤ x → d2[x]! = d1[x]! := fun x hx => hP.2.1 x (.inr hx)
  refine ⟨permIn_trans _ _ _ _ _ H.perm (permIn_mono _ _ _ _ _ _ (Nat.le_refl _) hmb (by omega) hP), hS, fun p q h1 h2 h3 => ?_, fun p q h1 h2 h3 => ?_, H.agu.far fun i h1 h2 => e i h1, fun p q h1 h2 h3 h4 => ?_⟩
  · rw [e p h1, e q (by omega)]; exact H.ul p q h1 h2 h3
  · rw [e p (by omega), e q (by omega)]; exact H.ur p q h1 h2 h3
  · rw [e q h3]
    exact permIn_all d1 d2 a ((a + b) / 2) (fun x => s d1[q]! x = false) (by omega) hP (fun i hi hi' => H.cross i q hi hi' h3 h4) p h1 h2
/-- Behind the upper half's. -/
theorem merged_of {a b c : Nat} {d d2 d3 : Array α} (h0 : PermIn a b d d2) (hb : b ≤ d.size) (hac : a ≤ c) (_hcb : c ≤ b) (h1 : SortedIn s a c d2) (hx : ∀ p q, a ≤ p → p < c → c ≤ q → q < b → s d2[q]! d2[p]! = false) (hM : Merged s c b d2 d3) : Merged s a b d d3 := by
  obtain ⟨hP, hS⟩ := hM
  have hs := h0.1
  have e : ∀ x, x < c → d3[x]! = d2[x]! := fun x hx => hP.2.1 x (.inl hx)
  refine ⟨permIn_trans _ _ _ _ _ h0 (permIn_mono _ _ _ _ _ _ hac (Nat.le_refl _) (by omega) hP), fun p q p1 p2 p3 => ?_⟩
  by_cases hq : q < c
  · rw [e p (by omega), e q hq]; exact h1 p q p1 p2 hq
  · by_cases hp : p < c
    · rw [e p hp]
      exact permIn_all d2 d3 c b (fun x => s x d2[p]! = false) (by omega) hP (fun i hi hi' => hx p i p1 hp hi hi') q (by omega) p3
    · exact hS p q (by omega) p2 p3

/-! ### Phases: blocks of B, then of 2 B -/
theorem insInner_go (lt : α → α → Bool) (a j : Nat) (d : Array α) (hj : a < j) (hl : lt d[j]! d[j - 1]! = true) : insInner lt a j d = insInner lt a (j - 1) (swp d j (j - 1)) := by
  obtain ⟨p, rfl⟩ : ∃ p, j = p + 1 := ⟨j - 1, by omega⟩
  rw [Nat.add_sub_cancel] at hl ⊢
  conv => lhs; unfold insInner
  rw [if_pos (by rw [hl, Bool.and_true]; exact decide_eq_true hj)]
theorem insInner_stop (lt : α → α → Bool) (a j : Nat) (d : Array α) (h : j ≤ a ∨ lt d[j]! d[j - 1]! = false) : insInner lt a j d = d := by
  cases j with
  | zero => rfl
  | succ p =>
    rw [Nat.add_sub_cancel] at h
    unfold insInner
    rw [if_neg]
    intro hc
    simp only [Bool.and_eq_true, decide_eq_true_eq] at hc
    rcases h with h | h
    · omega
    · rw [hc.2] at h; cases h
theorem insOuter_stop (lt : α → α → Bool) (a b i : Nat) (d : Array α) (h : ¬ i < b) : insOuter lt a b i d = d := by rw [insOuter, if_neg h]

/-- At each end of a block: what lies behind is told apart from what lies ahead by s. -/
def Ends (lt s : α → α → Bool) (n B : Nat) (d : Array α) : Prop := ∀ r, Ag lt s 0 (r * B) n d
/-- Each block is in order. -/
def Blocks (s : α → α → Bool) (n B : Nat) (d : Array α) : Prop := ∀ r, SortedIn s (r * B) (min ((r + 1) * B) n) d
theorem Ends.perm {n B r b : Nat} {d d' : Array α} (h : Ends lt s n B d) (hn : n ≤ d.size) (hbn : b ≤ n) (hb : b ≤ (r + 1) * B) (hP : PermIn (r * B) b d d') : Ends lt s n B d' := by
  intro q
  rcases Nat.lt_or_ge r q with hq | hq
  · have hc : b ≤ q * B := Nat.le_trans hb (Nat.mul_le_mul_right _ hq)
    intro p q' h1 h2 h3 h4
    exact (h q).perm_left (by omega) (permIn_mono _ _ _ _ _ _ (Nat.zero_le _) hc (by omega) hP) p q' h1 h2 h3 h4
  · have hc : q * B ≤ r * B := Nat.mul_le_mul_right _ hq
    exact (h q).perm_right hn (permIn_mono _ _ _ _ _ _ hc hbn hn hP)
theorem Ends.double {n B : Nat} {d : Array α} (h : Ends lt s n B d) : Ends lt s n (2 * B) d := fun r => by
  have := h (r * 2)
  rwa [Nat.mul_assoc] at this

/-- The first phase: blocks of B are put in order, one by one. -/
structure Ph0 (lt s : α → α → Bool) (n B r : Nat) (d dk : Array α) : Prop where
  perm : PermIn 0 n d dk
  done : ∀ q, q < r → SortedIn s (q * B) ((q + 1) * B) dk
  rest : ∀ x, r * B ≤ x → dk[x]! = d[x]!
  ends : Ends lt s n B dk
theorem ph0_start {n B : Nat} {d : Array α} (h : AgIn lt s 0 n d) : Ph0 lt s n B 0 d d :=
  ⟨permIn_refl _ _ _, fun q hq => by omega, fun _ _ => rfl, fun r p q h1 h2 h3 h4 => h p q h1 (by omega) h4⟩
theorem Ph0.ag {n B r b : Nat} {d dk : Array α} (H : Ph0 lt s n B r d dk) (h : AgIn lt s 0 n d) (hb : b ≤ n) : AgIn lt s (r * B) b dk := fun p q h1 h2 h3 => by
  rw [H.rest p h1, H.rest q (by omega)]; exact h p q (by omega) h2 (by omega)
theorem Ph0.step {n B r : Nat} {d dk d' : Array α} (H : Ph0 lt s n B r d dk) (hn : n ≤ d.size) (hb : (r + 1) * B ≤ n) (hP : PermIn (r * B) ((r + 1) * B) dk d') (hS : SortedIn s (r * B) ((r + 1) * B) d') : Ph0 lt s n B (r + 1) d d' := by
  have hs := H.perm.1
  refine ⟨permIn_trans _ _ _ _ _ H.perm (permIn_mono _ _ _ _ _ _ (Nat.zero_le _) hb (by omega) hP), fun q hq => ?_, fun x hx => ?_, H.ends.perm (by omega) hb (Nat.le_refl _) hP⟩
  · by_cases e : q = r
    · subst e; exact hS
    · have hle : (q + 1) * B ≤ r * B := Nat.mul_le_mul_right _ (by omega)
      intro i j h1 h2 h3
      rw [hP.2.1 i (.inl (by omega)), hP.2.1 j (.inl (by omega))]
      exact H.done q (by omega) i j h1 h2 h3
  · rw [hP.2.1 x (.inr hx)]
    exact H.rest x (by have : r * B ≤ (r + 1) * B := Nat.mul_le_mul_right _ (by omega); omega)
/-- Between two phases. -/
structure Ph (lt s : α → α → Bool) (n B : Nat) (d dk : Array α) : Prop where
  perm : PermIn 0 n d dk
  blocks : Blocks s n B dk
  ends : Ends lt s n B dk
theorem Ph0.last {n B r : Nat} {d dk d' : Array α} (H : Ph0 lt s n B r d dk) (hn : n ≤ d.size) (hr : r * B ≤ n) (hb : n < (r + 1) * B) (hP : PermIn (r * B) n dk d') (hS : SortedIn s (r * B) n d') : Ph lt s n B d d' := by
  have hs := H.perm.1
  refine ⟨permIn_trans _ _ _ _ _ H.perm (permIn_mono _ _ _ _ _ _ (Nat.zero_le _) (Nat.le_refl _) (by omega) hP), fun q => ?_, H.ends.perm (by omega) (Nat.le_refl _) (by omega) hP⟩
  intro i j h1 h2 h3
  rcases Nat.lt_trichotomy q r with hq | hq | hq
  · have hle : (q + 1) * B ≤ r * B := Nat.mul_le_mul_right _ (by omega)
    rw [hP.2.1 i (.inl (by omega)), hP.2.1 j (.inl (by omega))]
    exact H.done q hq i j h1 h2 (by omega)
  · subst hq; exact hS i j h1 h2 (by omega)
  · have hle : (r + 1) * B ≤ q * B := Nat.mul_le_mul_right _ (by omega)
    omega
/-- Within a phase: the pairs ahead of r are merged. -/
structure Md (lt s : α → α → Bool) (n B r : Nat) (d dk : Array α) : Prop where
  perm : PermIn 0 n d dk
  done : ∀ q, q < r → SortedIn s (q * (2 * B)) ((q + 1) * (2 * B)) dk
  rest : ∀ x, r * (2 * B) ≤ x → dk[x]! = d[x]!
  ends : Ends lt s n (2 * B) dk
theorem md_start {n B : Nat} {d0 d : Array α} (H : Ph lt s n B d0 d) : Md lt s n B 0 d d := ⟨permIn_refl _ _ _, fun q hq => by omega, fun _ _ => rfl, H.ends.double⟩
theorem Md.runs {n B r b : Nat} {d0 d dk : Array α} (M : Md lt s n B r d dk) (H : Ph lt s n B d0 d) (hn : n ≤ d.size) (hB : 0 < B) (hb : b ≤ n) (hb2 : b ≤ (r + 1) * (2 * B)) (hm : r * (2 * B) + B < b) : Runs lt s (r * (2 * B)) (r * (2 * B) + B) b dk := by
  have e1 : r * (2 * B) = r * 2 * B := (Nat.mul_assoc _ _ _).symm
  have e2 : r * (2 * B) + B = (r * 2 + 1) * B := by rw [e1, Nat.succ_mul]
  have e3 : (r + 1) * (2 * B) = (r * 2 + 1 + 1) * B := by rw [← Nat.mul_assoc]; congr 1; omega
  have hs := M.perm.1
  refine ⟨by omega, hm, by omega, fun i j h1 h2 h3 => ?_, fun i j h1 h2 h3 => ?_, fun p q h1 h2 h3 h4 => ?_⟩
  · rw [M.rest i h1, M.rest j (by omega)]
    exact H.blocks (r * 2) i j (by omega) h2 (by omega)
  · rw [M.rest i (by omega), M.rest j (by omega)]
    exact H.blocks (r * 2 + 1) i j (by omega) h2 (by omega)
  · rw [M.rest p h1, M.rest q (by omega)]
    exact H.ends (r * 2 + 1) p q (Nat.zero_le _) (by omega) (by omega) (by omega)
theorem Md.step {n B r : Nat} {d dk d' : Array α} (M : Md lt s n B r d dk) (hn : n ≤ d.size) (hb : (r + 1) * (2 * B) ≤ n) (hM : Merged s (r * (2 * B)) ((r + 1) * (2 * B)) dk d') : Md lt s n B (r + 1) d d' := by
  obtain ⟨hP, hS⟩ := hM
  have hs := M.perm.1
  refine ⟨permIn_trans _ _ _ _ _ M.perm (permIn_mono _ _ _ _ _ _ (Nat.zero_le _) hb (by omega) hP), fun q hq => ?_, fun x hx => ?_, M.ends.perm (by omega) hb (Nat.le_refl _) hP⟩
  · by_cases e : q = r
    · subst e; exact hS
    · have hle : (q + 1) * (2 * B) ≤ r * (2 * B) := Nat.mul_le_mul_right _ (by omega)
      intro i j h1 h2 h3
      rw [hP.2.1 i (.inl (by omega)), hP.2.1 j (.inl (by omega))]
      exact M.done q (by omega) i j h1 h2 h3
  · rw [hP.2.1 x (.inr hx)]
    exact M.rest x (by have : r * (2 * B) ≤ (r + 1) * (2 * B) := Nat.mul_le_mul_right _ (by omega); omega)
/-- The phase's end: what is left is merged, or is one block. -/
theorem Md.last {n B r : Nat} {d0 d dk d' : Array α} (M : Md lt s n B r d dk) (H : Ph lt s n B d0 d) (hn : n ≤ d0.size) (hb : n < (r + 1) * (2 * B)) (hP : PermIn (r * (2 * B)) n dk d') (hS : SortedIn s (r * (2 * B)) n d') (hr : r * (2 * B) ≤ n) : Ph lt s n (2 * B) d0 d' := by
  have hs := M.perm.1
  have hs0 := H.perm.1
  refine ⟨permIn_trans _ _ _ _ _ (permIn_trans _ _ _ _ _ H.perm M.perm) (permIn_mono _ _ _ _ _ _ (Nat.zero_le _) (Nat.le_refl _) (by omega) hP), fun q => ?_, M.ends.perm (by omega) (Nat.le_refl _) (by omega) hP⟩
  intro i j h1 h2 h3
  rcases Nat.lt_trichotomy q r with hq | hq | hq
  · have hle : (q + 1) * (2 * B) ≤ r * (2 * B) := Nat.mul_le_mul_right _ (by omega)
    rw [hP.2.1 i (.inl (by omega)), hP.2.1 j (.inl (by omega))]
    exact M.done q hq i j h1 h2 (by omega)
  · subst hq; exact hS i j h1 h2 (by omega)
  · have hle : (r + 1) * (2 * B) ≤ q * (2 * B) := Nat.mul_le_mul_right _ (by omega)
    omega
theorem Md.one {n B r : Nat} {d0 d dk : Array α} (M : Md lt s n B r d dk) (H : Ph lt s n B d0 d) (h : ¬ r * (2 * B) + B < n) : SortedIn s (r * (2 * B)) n dk := by
  have e1 : r * (2 * B) = r * 2 * B := (Nat.mul_assoc _ _ _).symm
  have e2 : r * (2 * B) + B = (r * 2 + 1) * B := by rw [e1, Nat.succ_mul]
  intro i j h1 h2 h3
  rw [M.rest i h1, M.rest j (by omega)]
  exact H.blocks (r * 2) i j (by omega) h2 (by omega)
theorem Ph.all {n B : Nat} {d dk : Array α} (H : Ph lt s n B d dk) (h : n ≤ B) : SortedIn s 0 n dk := fun i j h1 h2 h3 => H.blocks 0 i j (by omega) h2 (by omega)
end StS
