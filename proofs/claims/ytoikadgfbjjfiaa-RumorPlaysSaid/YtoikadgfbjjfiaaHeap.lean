/- A heap in a row, plain: what is swapped up and down; the first one is on top. No condition but an order. -/
namespace Go.Proofs.Ytoikadgfbjjfiaa.Heap
/-- An order: of two the one is ahead of the other, or neither is. -/
structure Ordr {α : Type} (lt : α → α → Bool) : Prop where
  asym : ∀ a b, lt a b = true → lt b a = false
  ntrans : ∀ a b c, lt a b = false → lt b c = false → lt a c = false
section
variable {α : Type} {lt : α → α → Bool}
theorem Ordr.le_of_lt (h : Ordr lt) {a b : α} (hl : lt a b = true) : lt b a = false := h.asym a b hl
theorem Ordr.irrefl (h : Ordr lt) (a : α) : lt a a = false := by
  cases e : lt a a with
  | false => rfl
  | true => have := h.asym a a e; rw [e] at this; cases this
def par (k : Nat) : Nat := (k - 1) / 2
def swap (f : Nat → α) (i j : Nat) (k : Nat) : α := if k = i then f j else if k = j then f i else f k
/-- A heap of n. -/
def IsH (lt : α → α → Bool) (f : Nat → α) (n : Nat) : Prop := ∀ k, 0 < k → k < n → lt (f k) (f (par k)) = false
/-- But that j may be ahead of its parent. -/
def UpH (lt : α → α → Bool) (f : Nat → α) (n j : Nat) : Prop :=
  (∀ k, 0 < k → k < n → k ≠ j → lt (f k) (f (par k)) = false) ∧ ∀ k, 0 < k → k < n → par k = j → 0 < j → lt (f k) (f (par j)) = false
/-- But that j's children may be ahead of it. -/
def DnH (lt : α → α → Bool) (f : Nat → α) (n j : Nat) : Prop :=
  (∀ k, 0 < k → k < n → par k ≠ j → lt (f k) (f (par k)) = false) ∧ ∀ k, 0 < k → k < n → par k = j → 0 < j → lt (f k) (f (par j)) = false
theorem par_lt {k : Nat} (h : 0 < k) : par k < k := by unfold par; omega
theorem UpH.done0 {f : Nat → α} {n : Nat} (h : UpH lt f n 0) : IsH lt f n := fun k h0 h1 => h.1 k h0 h1 (by omega)
theorem UpH.done {f : Nat → α} {n j : Nat} (h : UpH lt f n j) (hj : lt (f j) (f (par j)) = false) : IsH lt f n := fun k h0 h1 => by
  by_cases e : k = j
  · subst e; exact hj
  · exact h.1 k h0 h1 e
theorem UpH.step (o : Ordr lt) {f : Nat → α} {n j : Nat} (h : UpH lt f n j) (h0 : 0 < j) (hj : j < n) (hl : lt (f j) (f (par j)) = true) : UpH lt (swap f (par j) j) n (par j) := by
  have hp := par_lt h0
  refine ⟨fun k k0 kn kj => ?_, fun k k0 kn kp p0 => ?_⟩
  · by_cases e : k = j
    · subst e
      have h1 : swap f (par k) k k = f (par k) := by unfold swap; rw [if_neg (by omega), if_pos rfl]
      have h2 : swap f (par k) k (par k) = f k := by unfold swap; rw [if_pos rfl]
      rw [h1, h2]
      exact o.asym _ _ hl
    · have h1 : swap f (par j) j k = f k := by unfold swap; rw [if_neg kj, if_neg e]
      rw [h1]
      by_cases e2 : par k = par j
      · rw [e2]
        have h2 : swap f (par j) j (par j) = f j := by unfold swap; rw [if_pos rfl]
        rw [h2]
        have h3 := h.1 k k0 kn e
        rw [e2] at h3
        exact o.ntrans _ _ _ h3 (o.asym _ _ hl)
      · by_cases e3 : par k = j
        · rw [e3]
          have h2 : swap f (par j) j j = f (par j) := by unfold swap; rw [if_neg (by omega), if_pos rfl]
          rw [h2]
          exact h.2 k k0 kn e3 h0
        · have h2 : swap f (par j) j (par k) = f (par k) := by unfold swap; rw [if_neg e2, if_neg e3]
          rw [h2]
          exact h.1 k k0 kn e
  · have hpp := par_lt p0
    have h2 : swap f (par j) j (par (par j)) = f (par (par j)) := by unfold swap; rw [if_neg (by omega), if_neg (by omega)]
    rw [h2]
    have h3 := h.1 (par j) p0 (by omega) (by omega)
    by_cases e : k = j
    · subst e
      have h1 : swap f (par k) k k = f (par k) := by unfold swap; rw [if_neg (by omega), if_pos rfl]
      rw [h1]
      exact h3
    · have kp' := par_lt k0
      have h1 : swap f (par j) j k = f k := by unfold swap; rw [if_neg (by omega), if_neg e]
      rw [h1]
      have h4 := h.1 k k0 kn e
      rw [kp] at h4
      exact o.ntrans _ _ _ h4 h3
/-- j's lesser child. -/
def kid (lt : α → α → Bool) (f : Nat → α) (n i : Nat) : Nat := if 2 * i + 2 < n ∧ lt (f (2 * i + 2)) (f (2 * i + 1)) = true then 2 * i + 2 else 2 * i + 1
theorem kid_par (f : Nat → α) (n i : Nat) : par (kid lt f n i) = i ∧ i < kid lt f n i := by unfold kid par; split <;> omega
theorem kid_lt {f : Nat → α} {n i : Nat} (h : 2 * i + 1 < n) : kid lt f n i < n := by unfold kid; split <;> omega
theorem kid_le (o : Ordr lt) (f : Nat → α) (n i k : Nat) (k0 : 0 < k) (kn : k < n) (hk : par k = i) : lt (f k) (f (kid lt f n i)) = false := by
  have : k = 2 * i + 1 ∨ k = 2 * i + 2 := by unfold par at hk; omega
  unfold kid
  split
  · rename_i h
    rcases this with rfl | rfl
    · exact o.asym _ _ h.2
    · exact o.irrefl _
  · rename_i h
    rcases this with rfl | rfl
    · exact o.irrefl _
    · cases e : lt (f (2 * i + 2)) (f (2 * i + 1)) with
      | false => rfl
      | true => exact absurd ⟨kn, e⟩ h
theorem DnH.none_ {f : Nat → α} {n i : Nat} (h : DnH lt f n i) (hi : ¬ 2 * i + 1 < n) : IsH lt f n := fun k k0 kn => by
  by_cases e : par k = i
  · have : k = 2 * i + 1 ∨ k = 2 * i + 2 := by unfold par at e; omega
    omega
  · exact h.1 k k0 kn e
theorem DnH.done (o : Ordr lt) {f : Nat → α} {n i : Nat} (h : DnH lt f n i) (hi : lt (f (kid lt f n i)) (f i) = false) : IsH lt f n := fun k k0 kn => by
  by_cases e : par k = i
  · rw [e]
    exact o.ntrans _ _ _ (kid_le o f n i k k0 kn e) hi
  · exact h.1 k k0 kn e
theorem DnH.step (o : Ordr lt) {f : Nat → α} {n i : Nat} (h : DnH lt f n i) (hn : 2 * i + 1 < n) (hl : lt (f (kid lt f n i)) (f i) = true) : DnH lt (swap f i (kid lt f n i)) n (kid lt f n i) := by
  obtain ⟨hp, hi⟩ := kid_par (lt := lt) f n i
  have hle := kid_le o f n i
  have hkn := kid_lt (lt := lt) (f := f) hn
  generalize kid lt f n i = j at *
  have s1 : swap f i j j = f i := by unfold swap; rw [if_neg (by omega), if_pos rfl]
  have s2 : swap f i j i = f j := by unfold swap; rw [if_pos rfl]
  have s3 : ∀ k, k ≠ i → k ≠ j → swap f i j k = f k := fun k h1 h2 => by unfold swap; rw [if_neg h1, if_neg h2]
  refine ⟨fun k k0 kn kj => ?_, fun k k0 kn kp _ => ?_⟩
  · by_cases e : k = j
    · subst e
      rw [hp, s1, s2]
      exact o.asym _ _ hl
    · by_cases e2 : par k = i
      · rw [e2, s2, s3 k (by have := par_lt k0; omega) e]
        exact hle k k0 kn e2
      · rw [s3 (par k) e2 kj]
        by_cases e3 : k = i
        · subst e3
          rw [s2]
          exact h.2 j (by omega) hkn hp k0
        · rw [s3 k e3 e]
          exact h.1 k k0 kn e2
  · have := par_lt k0
    rw [hp, s2, s3 k (by omega) (by omega)]
    have h2 := h.1 k k0 kn (by omega)
    rwa [kp] at h2
/-- What stands at i is another one. -/
def AtH (lt : α → α → Bool) (f : Nat → α) (n i : Nat) : Prop :=
  (∀ k, 0 < k → k < n → k ≠ i → par k ≠ i → lt (f k) (f (par k)) = false) ∧ ∀ k, 0 < k → k < n → par k = i → 0 < i → lt (f k) (f (par i)) = false
theorem AtH.up {f : Nat → α} {n i : Nat} (h : AtH lt f n i) (hk : ∀ k, 0 < k → k < n → par k = i → lt (f k) (f i) = false) : UpH lt f n i :=
  ⟨fun k k0 kn ki => by
    by_cases e : par k = i
    · rw [e]; exact hk k k0 kn e
    · exact h.1 k k0 kn ki e, h.2⟩
theorem AtH.down (o : Ordr lt) {f : Nat → α} {n i : Nat} (h : AtH lt f n i) (hn : 2 * i + 1 < n) (hl : lt (f (kid lt f n i)) (f i) = true) : DnH lt (swap f i (kid lt f n i)) n (kid lt f n i) := by
  obtain ⟨hp, hi⟩ := kid_par (lt := lt) f n i
  have hle := kid_le o f n i
  have hkn := kid_lt (lt := lt) (f := f) hn
  generalize kid lt f n i = j at *
  have s1 : swap f i j j = f i := by unfold swap; rw [if_neg (by omega), if_pos rfl]
  have s2 : swap f i j i = f j := by unfold swap; rw [if_pos rfl]
  have s3 : ∀ k, k ≠ i → k ≠ j → swap f i j k = f k := fun k h1 h2 => by unfold swap; rw [if_neg h1, if_neg h2]
  refine ⟨fun k k0 kn kj => ?_, fun k k0 kn kp _ => ?_⟩
  · by_cases e : k = j
    · subst e
      rw [hp, s1, s2]
      exact o.asym _ _ hl
    · by_cases e2 : par k = i
      · rw [e2, s2, s3 k (by have := par_lt k0; omega) e]
        exact hle k k0 kn e2
      · rw [s3 (par k) e2 kj]
        by_cases e3 : k = i
        · subst e3
          rw [s2]
          exact h.2 j (by omega) hkn hp k0
        · rw [s3 k e3 e]
          exact h.1 k k0 kn e3 e2
  · have := par_lt k0
    rw [hp, s2, s3 k (by omega) (by omega)]
    have h2 := h.1 k k0 kn (by omega) (by omega)
    rwa [kp] at h2
/-- Nothing is ahead of what is on top. -/
theorem IsH.top (o : Ordr lt) {f : Nat → α} {n : Nat} (h : IsH lt f n) : ∀ k, k < n → lt (f k) (f 0) = false := by
  intro k
  induction k using Nat.strongRecOn with
  | _ k ih =>
    intro kn
    by_cases k0 : k = 0
    · subst k0; exact o.irrefl _
    · have hp := par_lt (k := k) (by omega)
      exact o.ntrans _ _ _ (h k (by omega) kn) (ih (par k) hp (by omega))
end
end Go.Proofs.Ytoikadgfbjjfiaa.Heap
