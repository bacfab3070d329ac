/- ClockDots: the walk put together, and the plain facts on vectors. No condition. -/
import Derived.Test.YtngoopfdfihkpaaCaseClockDots
namespace Go.Proofs.Ytngoopfdfihkpaa.WClockDots
open Go.RowKit Kit Clk

theorem law (v : Nat → Int) (n k m j : Int) (w : World) :
    Calls Try.prog 4 #[V v, .agg #[.int .i64 n, .int .i64 k], .agg #[.int .i64 m, .int .i64 j]] w fun e w' => e = .returned (.bool true) ∧ Below w.heap.size w w' := by
  cases hm : mayV v with
  | false => exact bad0 v n k m j w hm
  | true =>
  by_cases h1 : n < 0
  · exact bad1 v n k m j w hm (by simpa using h1)
  by_cases h2 : 8 ≤ n
  · exact bad2 v n k m j w hm (by simpa using h1) (by simpa using h2)
  by_cases h3 : k < 1
  · exact bad3 v n k m j w hm (by simpa using h1) (by simpa using h2) (by simpa using h3)
  by_cases h4 : 1000000 < k
  · exact bad4 v n k m j w hm (by simpa using h1) (by simpa using h2) (by simpa using h3) (by simpa using h4)
  have hv := (mayV_iff v).1 hm
  have hr : mayV (wiV v n k) = true := by
    rw [mayV_iff]
    intro i hi
    have := hv i hi
    unfold wiV mx
    repeat' split
    all_goals omega
  have hw2 : ∀ i, i < 8 → wiV (wiV v n k) n k i = wiV v n k i := by
    intro i _
    unfold wiV mx
    by_cases e : n = (i : Int)
    · simp only [e, if_true]
      by_cases e2 : v i < k
      · simp [e2]
      · simp [e2]
    · simp [e]
  have h8 : (eq8 (wiV v n k 0) (wiV v n k 1) (wiV v n k 2) (wiV v n k 3) (wiV v n k 4) (wiV v n k 5) (wiV v n k 6) (wiV v n k 7) (v 0) (v 1) (v 2) (v 3) (v 4) (v 5) (v 6) (v 7)) = hasV v n k := by
    rw [Bool.eq_iff_iff, eq8_iff (wiV v n k) v]
    unfold hasV
    simp only [decide_eq_true_eq]
    obtain ⟨q, rfl⟩ := Int.eq_ofNat_of_zero_le (show 0 ≤ n by omega)
    constructor
    · intro h
      have := h q (by omega)
      unfold wiV mx at this
      rw [if_pos rfl] at this
      refine ⟨by omega, by omega, by omega, ?_⟩
      rw [Int.toNat_natCast]
      split at this <;> omega
    · rintro ⟨_, _, _, h⟩ i hi
      rw [Int.toNat_natCast] at h
      unfold wiV mx
      by_cases e : (q : Int) = (i : Int)
      · obtain rfl : q = i := by omega
        rw [if_pos rfl, if_neg (by omega)]
      · rw [if_neg e]
  have d1 : decide (n < 0) = false := by simpa using h1
  have d2 : decide (8 ≤ n) = false := by simpa using h2
  have d3 : decide (k < 1) = false := by simpa using h3
  have d4 : decide (1000000 < k) = false := by simpa using h4
  -- what the vector that knows the dot has
  have key : ∀ c, hasV v m j = c → hasV (wiV v n k) m j = (c || (decide (m = n) && (decide (1 ≤ j) && decide (j ≤ k)))) := by
    intro c hc
    subst hc
    unfold hasV
    by_cases hmr : 0 ≤ m ∧ m < 8
    · obtain ⟨q, rfl⟩ := Int.eq_ofNat_of_zero_le hmr.1
      simp only [Int.toNat_natCast]
      unfold wiV mx
      by_cases e : (q : Int) = n
      · subst e
        rw [Bool.eq_iff_iff]
        by_cases e2 : v q < k
        · simp [e2]; omega
        · simp [e2]; omega
      · rw [Bool.eq_iff_iff]
        have e' : ¬ n = (q : Int) := fun h => e h.symm
        simp [e, e']
    · rw [Bool.eq_iff_iff]
      simp
      omega
  cases hb : hasV v m j with
  | true => exact goodT v _ n k m j _ w hm hr d1 d2 d3 d4 (fun _ _ => rfl) hw2 (by rw [key _ hb]; rfl) hb rfl h8
  | false =>
    have kf := key _ hb
    by_cases e : m = n
    · by_cases ej : 1 ≤ j
      · exact goodJ v _ n k m j _ w hm hr d1 d2 d3 d4 (fun _ _ => rfl) hw2 (show hasV _ m j = _ by rw [kf]; simp [e, ej]) hb rfl h8 (by simpa using e) (by simpa using ej)
      · exact goodK v _ n k m j _ w hm hr d1 d2 d3 d4 (fun _ _ => rfl) hw2 (show hasV _ m j = _ by rw [kf]; simp [ej]) hb rfl h8 (by simpa using e) (by simpa using ej)
    · exact goodN v _ n k m j _ w hm hr d1 d2 d3 d4 (fun _ _ => rfl) hw2 (show hasV _ m j = _ by rw [kf]; simp [e]) hb rfl h8 (by simpa using e)

def sh0 : Sh := .pair (.int .i64) (.pair (.int .i64) (.pair (.int .i64) (.pair (.int .i64) (.pair (.int .i64) (.pair (.int .i64) (.pair (.int .i64) (.pair (.int .i64) .unit)))))))
def sh1 : Sh := .pair (.int .i64) (.pair (.int .i64) .unit)
def sh2 : Sh := sh1
theorem walk (w : World) (a : Array Value) (ha : RD w sh0 a.toList) (b : Array Value) (hb : RD w sh1 b.toList) (c : Array Value) (hc : RD w sh2 c.toList) :
    Calls Try.prog 4 #[.agg a, .agg b, .agg c] w fun e w' => e = .returned (.bool true) ∧ Below w.heap.size w w' := by
  obtain ⟨v, rfl, _⟩ := rd_eight ha
  obtain ⟨n, k, rfl, _, _⟩ := rd_two hb
  obtain ⟨m, j, rfl, _, _⟩ := rd_two hc
  exact law v n k m j w
end Go.Proofs.Ytngoopfdfihkpaa.WClockDots
