/- EntryOnce: of a row of flips each epoch has one owner, and only the last one counts, in whatever order they are joined. No condition beside the given row's own. -/
import Derived.Test.YtngoopfdfihkpaaPEntryOncex3
import Derived.Test.YtngoopfdfihkpaaEntO
namespace Go.Proofs.Ytngoopfdfihkpaa.Pure
open Go.RowKit Go.Proofs.Ytngoopfdfihkpaa.PEntryOnce Go.Proofs.YtngoopfdfihkpaaW.PrintWords Go.Proofs.YtngoopfdfihkpaaW.PrintLast

theorem w64 {n : Int} (h0 : 0 ≤ n) (h1 : n < 1000000000) : wrap64 n = n := by unfold wrap64; omega
theorem u64_len {n : Nat} (h1 : n < 1000000000) : IntKind.u64.wrap (n : Int) = (n : Int) := by rw [IntKind.wrap_u64]; omega
theorem u64_pos (n : Int) : 0 ≤ IntKind.u64.wrap n := by rw [IntKind.wrap_u64]; omega
theorem tmod_pos {a b : Int} (ha : 0 ≤ a) : a.tmod b = a % b := Int.tmod_eq_emod_of_nonneg ha

theorem join_s (k : Nat) (hk : 4 ≤ k) (a0 a1 b0 b1 : Int) :
    entry_Join.f k a0 a1 b0 b1 = some (if cmpE b0 b1 a0 a1 > 0 then (b0, b1) else (a0, a1)) := by
  unfold entry_Join.f
  rw [compare_s k hk]
  simp only [Option.bind_some]
  split <;> rfl

theorem cmpE_gt {a0 a1 b0 b1 : Int} (h : b0 < a0) : cmpE a0 a1 b0 b1 = 1 := by
  unfold cmpE cmpI
  rw [if_neg (by rw [if_neg (by omega), if_pos (by omega)]; omega), if_neg (by omega), if_pos (by omega)]
theorem cmpE_lt {a0 a1 b0 b1 : Int} (h : a0 < b0) : cmpE a0 a1 b0 b1 = -1 := by
  unfold cmpE cmpI
  rw [if_neg (by rw [if_pos h]; omega), if_pos h]
theorem cmpE_eq (a0 a1 : Int) : cmpE a0 a1 a0 a1 = 0 := by
  unfold cmpE cmpI
  simp

theorem hmod (i m n : Nat) {l : Nat} (hn : l = n) : Int.tmod ((i : Int) + (m : Int)) (l : Int) = (((i + m) % n : Nat) : Int) := by
  subst hn
  rw [← Int.natCast_add, tmod_pos (Int.natCast_nonneg _)]
  exact (Int.natCast_emod _ _).symm

/-- the row of all entries: the epoch is the place and one. -/
def Row (all : List S35) : Prop := ∀ j : Nat, j < all.length → (all.getD j z35).f0 = (j : Int) + 1

theorem l1_s (all : List S35) (hr : Row all) (n m : Nat) (hn : all.length = n) (hn1 : 1 ≤ n) (hn2 : n ≤ 100) (hm : m < n) (e o : Int)
    (he : (all.getD (n - 1) z35).f0 = e) (ho : (all.getD (n - 1) z35).f1 = o) :
    ∀ (d k i : Nat) (g0 g1 : Int), i + d = n → d + 10 ≤ k →
      ((i = 0 ∧ g0 = 0 ∧ g1 = 0) ∨ ∃ j, j < n ∧ (all.getD j z35).f0 = g0 ∧ (all.getD j z35).f1 = g1 ∧ ∀ t, t < i → (t + m) % n ≤ j) →
      starlinglaw9_EntryOnce.l1 k all (m : Int) (n : Int) (i : Int) e o g0 g1 = some true := by
  intro d
  induction d with
  | zero =>
    intro k i g0 g1 hi hk h
    obtain ⟨k, rfl⟩ : ∃ q, k = q + 1 := ⟨k - 1, by omega⟩
    simp only [starlinglaw9_EntryOnce.l1]
    rw [if_neg (by omega)]
    rcases h with ⟨h, _⟩ | ⟨j, hj, h0, h1, ht⟩
    · omega
    · have := ht (n - 1 - m) (by omega)
      rw [show n - 1 - m + m = n - 1 from by omega, Nat.mod_eq_of_lt (by omega)] at this
      obtain rfl : j = n - 1 := by omega
      rw [if_pos (by rw [← h0, ← h1, he, ho]; simp), awake_s k (by omega)]
      rfl
  | succ d ih =>
    intro k i g0 g1 hi hk h
    obtain ⟨k, rfl⟩ : ∃ q, k = q + 1 := ⟨k - 1, by omega⟩
    simp only [starlinglaw9_EntryOnce.l1]
    rw [if_pos (by omega), if_neg (by omega)]
    have hlt : (i + m) % n < n := Nat.mod_lt _ (by omega)
    have hlt' : (((i + m) % n : Nat) : Int) < (all.length : Int) := by omega
    rw [w64 (n := (i : Int) + (m : Int)) (by omega) (by omega), w64 (n := (i : Int) + 1) (by omega) (by omega), hmod _ _ _ hn]
    rw [if_pos (Int.natCast_nonneg _), if_pos hlt']
    have hrd : rd_T35 all (((i + m) % n : Nat) : Int) = all.getD ((i + m) % n) z35 := by unfold rd_T35; rw [Int.toNat_natCast]
    rw [hrd, join_s k (by omega)]
    simp only [Option.bind_some]
    have hb := hr ((i + m) % n) (by omega)
    rcases h with ⟨h0, rfl, rfl⟩ | ⟨j, hj, h0, h1, ht⟩
    · subst h0
      rw [if_pos (by rw [cmpE_gt (by omega)]; omega)]
      refine ih k 1 _ _ (by omega) (by omega) (Or.inr ⟨(0 + m) % n, hlt, rfl, rfl, fun t ht => ?_⟩)
      obtain rfl : t = 0 := by omega
      exact Nat.le_refl _
    · have hjj := hr j (by omega)
      by_cases hc : j < (i + m) % n
      · rw [if_pos (by rw [cmpE_gt (by omega)]; omega)]
        refine ih k (i + 1) _ _ (by omega) (by omega) (Or.inr ⟨(i + m) % n, hlt, rfl, rfl, fun t htt => ?_⟩)
        by_cases e : t = i
        · subst e; exact Nat.le_refl _
        · have := ht t (by omega); omega
      · have hng : ¬ cmpE ((all.getD ((i + m) % n) z35).f0) ((all.getD ((i + m) % n) z35).f1) g0 g1 > 0 := by
          by_cases hq : (i + m) % n = j
          · rw [hq, h0, h1, cmpE_eq]; omega
          · rw [cmpE_lt (by omega)]; omega
        rw [if_neg hng]
        refine ih k (i + 1) _ _ (by omega) (by omega) (Or.inr ⟨j, hj, h0, h1, fun t htt => ?_⟩)
        by_cases e : t = i
        · subst e; omega
        · exact ht t (by omega)

theorem node_of (x : Int) : isNode (wrap64 (Int.tmod (IntKind.u64.wrap x) 8)) = true := by
  rw [isNode_t]
  have h : 0 ≤ IntKind.u64.wrap x := by rw [IntKind.wrap_u64]; omega
  rw [tmod_pos h]
  unfold wrap64
  omega

theorem l0_s (xs : List Int) (turn : Int) (hx : xs.length ≤ 60) :
    ∀ (d k i : Nat) (all : List S35) (e o : Int), i + d = xs.length → d + 200 ≤ k → all.length = i + 1 → Row all →
      (all.getD i z35).f0 = e → (all.getD i z35).f1 = o → isNode o = true →
      starlinglaw9_EntryOnce.l0 k turn all xs (xs.length : Int) (i : Int) e o = some true := by
  intro d
  induction d with
  | zero =>
    intro k i all e o hi hk hl hr h0 h1 _
    obtain ⟨k, rfl⟩ : ∃ q, k = q + 1 := ⟨k - 1, by omega⟩
    simp only [starlinglaw9_EntryOnce.l0]
    rw [if_neg (by omega), u64_len (by omega), if_neg (by omega)]
    rw [tmod_pos (u64_pos turn)]
    generalize IntKind.u64.wrap turn = t
    have hl0 : (all.length : Int) ≠ 0 := by omega
    have hl1 : 0 < (all.length : Int) := by omega
    have hm0 : 0 ≤ t % (all.length : Int) := Int.emod_nonneg _ hl0
    have hm1 : t % (all.length : Int) < all.length := Int.emod_lt_of_pos _ hl1
    generalize t % (all.length : Int) = m at hm0 hm1
    rw [w64 hm0 (by omega)]
    obtain ⟨m, rfl⟩ := Int.eq_ofNat_of_zero_le hm0
    have q1 : 1 ≤ all.length := by omega
    have q2 : all.length ≤ 100 := by omega
    have q3 : m < all.length := by omega
    have q4 : (all.getD (all.length - 1) z35).f0 = e := by rw [hl]; exact h0
    have q5 : (all.getD (all.length - 1) z35).f1 = o := by rw [hl]; exact h1
    have q6 : all.length + 10 ≤ k := by omega
    have := l1_s all hr all.length m rfl q1 q2 q3 e o q4 q5 all.length k 0 0 0 (Nat.zero_add _) q6 (Or.inl ⟨rfl, rfl, rfl⟩)
    exact this
  | succ d ih =>
    intro k i all e o hi hk hl hr h0 h1 hno
    obtain ⟨k, rfl⟩ : ∃ q, k = q + 1 := ⟨k - 1, by omega⟩
    simp only [starlinglaw9_EntryOnce.l0]
    rw [if_pos (by omega), if_pos (by omega), if_pos (by omega)]
    have hri := hr i (by omega)
    have he : e = (i : Int) + 1 := by rw [← h0]; exact hri
    have hnode := node_of (rd xs (i : Int))
    generalize wrap64 (Int.tmod (IntKind.u64.wrap (rd xs (i : Int))) 8) = q at hnode
    have hno' := isNode_t.1 hno
    rw [flip_ok k (by omega) e o q (by rw [mayE_t]; omega) hnode (by omega)]
    simp only [Option.bind_some]
    rw [if_pos trivial, w64 (n := e + 1) (by omega) (by omega), if_pos rfl, if_pos (by omega), w64 (n := (i : Int) + 1) (by omega) (by omega)]
    refine ih k (i + 1) _ _ _ (by omega) (by omega) (by simp; omega) ?_ ?_ ?_ hnode
    · intro j hj
      by_cases hji : j < all.length
      · have := hr j hji
        simp only [List.getD_eq_getElem?_getD] at this ⊢
        rw [List.getElem?_append_left hji]
        exact this
      · have hj' : j = all.length := by simp at hj; omega
        subst hj'
        simp only [List.getD_eq_getElem?_getD]
        rw [List.getElem?_append_right (Nat.le_refl _)]
        simp
        omega
    · rw [← hl]
      simp only [List.getD_eq_getElem?_getD]
      rw [List.getElem?_append_right (Nat.le_refl _)]
      simp
    · rw [← hl]
      simp only [List.getD_eq_getElem?_getD]
      rw [List.getElem?_append_right (Nat.le_refl _)]
      simp

theorem EntryOnce : starlinglaw9_EntryOnce.Pure := by
  intro xs turn _ _ _ _
  refine ⟨400, ?_⟩
  unfold starlinglaw9_EntryOnce.f
  by_cases h : (xs.length : Int) > 60
  · rw [if_pos h, awake_s 400 (by omega)]; rfl
  · rw [if_neg h]
    refine l0_s xs turn (by omega) xs.length 400 0 _ 1 0 (by omega) (by omega) rfl ?_ rfl rfl (by decide)
    intro j hj
    obtain rfl : j = 0 := by simpa using hj
    rfl

end Go.Proofs.Ytngoopfdfihkpaa.Pure
