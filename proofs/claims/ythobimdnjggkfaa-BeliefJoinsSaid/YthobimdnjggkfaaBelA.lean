/- Chapter 1's May and Compare (claims), in closed form; the contracts of them that chapter 2 needs. No condition. -/
import Derived.Test.YthobimdnjggkfaaPBeliefJoinsx1
import Derived.Test.YthobimdnjggkfaaKit
namespace Go.Proofs.Ythobimdnjggkfaa.PBeliefJoins
open Go.RowKit Kit Go.Proofs.YthobimdnjggkfaaW.PrintWords Go.Proofs.YthobimdnjggkfaaW.PrintLast
def cmpI (a b : Int) : Int := if a < b then -1 else if a > b then 1 else 0
theorem cmp_s (a b : Int) : cmp_Compare_int.f a b = some (cmpI a b) := by
  unfold cmp_Compare_int.f cmp_isNaN_int.f cmpI
  simp only [Option.bind_some, bne_self_eq_false, Bool.false_eq_true, if_false]
  by_cases h1 : a < b
  · rw [if_pos h1, if_pos h1]
  · rw [if_neg h1, if_neg h1]
    by_cases h2 : a > b
    · rw [if_pos h2, if_pos h2]
    · rw [if_neg h2, if_neg h2]
theorem or_s (x y : Int) : cmp_Or_int.f 4 [x, y] = some (if x = 0 then y else x) := by
  by_cases hx : x = 0
  · by_cases hy : y = 0
    · subst hx; subst hy; simp [cmp_Or_int.f, cmp_Or_int.l0, rd, wrap64]
    · subst hx; simp [cmp_Or_int.f, cmp_Or_int.l0, rd, wrap64, hy]
  · simp [cmp_Or_int.f, cmp_Or_int.l0, rd, hx]
/-- How loud a claim is against another: the node's number takes no part. -/
def cmpC (i h j k : Int) : Int :=
  if h = 4 then (if k = 4 then 0 else 1) else if k = 4 then -1 else if i < j then -1 else if i > j then 1 else if h < k then -1 else if h > k then 1 else 0
theorem left_s (n i h : Int) : health_left.f n i h = some (if h = 4 then 1 else 0) := by
  unfold health_left.f; split <;> rfl
theorem compare_s (n i h m j k : Int) : health_Compare.f 4 n i h m j k = some (cmpC i h j k) := by
  unfold health_Compare.f cmpC
  rw [left_s, left_s, cmp_s, cmp_s]
  simp only [Option.bind_some]
  rw [or_s]
  by_cases h4 : h = 4
  · by_cases k4 : k = 4
    · simp [h4, k4, wrap64]
    · simp [h4, k4, wrap64]
  · by_cases k4 : k = 4
    · simp [h4, k4, wrap64]
    · simp only [h4, k4, if_false]
      rw [if_neg (by unfold wrap64; omega)]
      unfold cmpI
      by_cases h1 : i < j
      · simp [h1]
      · by_cases h2 : i > j
        · simp [h1, h2]
        · simp [h1, h2]
def nodeB (n : Int) : Bool := decide (0 ≤ n ∧ n < 8)
theorem node_s (n : Int) : health_node.f n = some (nodeB n) := by
  unfold health_node.f nodeB
  by_cases h : n ≥ 0
  · rw [if_pos h]; congr 1; simp; omega
  · rw [if_neg h]; congr 1; simp; omega
def mayC (n i h : Int) : Bool := decide (0 ≤ n ∧ n < 8 ∧ (h = 0 ∧ i = 0 ∨ 0 ≤ i ∧ i ≤ 1000000 ∧ 1 ≤ h ∧ h ≤ 4))
theorem may_s (n i h : Int) : health_May.f n i h = some (mayC n i h) := by
  unfold health_May.f
  rw [node_s]
  simp only [Option.bind_some]
  unfold nodeB mayC
  by_cases h0 : 0 ≤ n ∧ n < 8
  · simp only [h0, and_self, decide_true, if_true, true_and]
    by_cases h1 : h = 0
    · rw [if_pos h1]; congr 1; rw [Bool.eq_iff_iff]; simp; omega
    · rw [if_neg h1]
      by_cases h2 : i ≥ 0
      · rw [if_pos h2]
        by_cases h3 : i ≤ 1000000
        · rw [if_pos h3]
          by_cases h4 : h ≥ 1
          · rw [if_pos h4]; congr 1; rw [Bool.eq_iff_iff]; simp; omega
          · rw [if_neg h4]; congr 1; symm; simp; omega
        · rw [if_neg h3]; congr 1; symm; simp; omega
      · rw [if_neg h2]; congr 1; symm; simp; omega
  · rw [if_neg (by simpa using h0)]; congr 1; symm; simp; omega
theorem may1 {n i h : Int} {c : Bool} (e : mayC n i h = c) (w : World) : Calls Try.prog 46 #[.agg #[.int .i64 n, .int .i64 i, .int .i64 h]] w fun e w' => e = .returned (.bool c) ∧ Below w.heap.size w w' :=
  health_May.calls n i h _ w (by rw [may_s, e])
theorem compare1 {n i h m j k r : Int} (e : cmpC i h j k = r) (w : World) : Calls Try.prog 32 #[.agg #[.int .i64 n, .int .i64 i, .int .i64 h], .agg #[.int .i64 m, .int .i64 j, .int .i64 k]] w fun e w' => e = .returned (.int .i64 r) ∧ Below w.heap.size w w' :=
  health_Compare.calls 4 n i h m j k _ w (by rw [compare_s, e])
end Go.Proofs.Ythobimdnjggkfaa.PBeliefJoins
