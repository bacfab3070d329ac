/- Chapter 13's comparison of dots, program's and reference's, in one closed form. No condition. -/
import Derived.Test.YtngoopfdfihkpaaPClockFormsx1
import Derived.Test.YtngoopfdfihkpaaKit
namespace Go.Proofs.Ytngoopfdfihkpaa.PClockForms
open Go.RowKit Kit Go.Proofs.YtngoopfdfihkpaaW.PrintWords Go.Proofs.YtngoopfdfihkpaaW.PrintLast
def cmpI (a b : Int) : Int := if a < b then -1 else if a > b then 1 else 0
theorem cmp_s (a b : Int) : cmp_Compare_int.f a b = some (cmpI a b) := by
  unfold cmp_Compare_int.f cmp_isNaN_int.f cmpI
  simp only [Option.bind_some, bne_self_eq_false, Bool.false_eq_true, if_false]
  by_cases h1 : a < b
  · rw [if_pos h1, if_pos h1]
  · rw [if_neg h1, if_neg h1]
    by_cases h2 : a > b
    · rw [if_pos h2, if_pos h2]
    · rw [if_neg h2, if_neg h2]
theorem rcmp_s (a b : Int) : starlingref7_cmp.f a b = some (cmpI a b) := by
  unfold starlingref7_cmp.f cmpI
  by_cases h : a < b
  · rw [if_pos h, if_pos h]
  · rw [if_neg h, if_neg h]
    by_cases h' : a > b
    · rw [if_pos h', if_pos h']
    · rw [if_neg h', if_neg h']
theorem or_s (x y : Int) : cmp_Or_int.f 4 [x, y] = some (if x = 0 then y else x) := by
  by_cases hx : x = 0
  · by_cases hy : y = 0
    · subst hx; subst hy; simp [cmp_Or_int.f, cmp_Or_int.l0, rd, wrap64]
    · subst hx; simp [cmp_Or_int.f, cmp_Or_int.l0, rd, wrap64, hy]
  · simp [cmp_Or_int.f, cmp_Or_int.l0, rd, hx]
def cmpE (a0 a1 b0 b1 : Int) : Int := if cmpI a0 b0 = 0 then cmpI a1 b1 else cmpI a0 b0
theorem compare_s (a0 a1 b0 b1 : Int) : clock_Compare.f 4 a0 a1 b0 b1 = some (cmpE a0 a1 b0 b1) := by
  unfold clock_Compare.f cmpE
  rw [cmp_s, cmp_s]
  simp only [Option.bind_some]
  rw [or_s]
  rfl
theorem rcompare_s (a0 a1 b0 b1 : Int) : starlingref7_CompareDot.f a0 a1 b0 b1 = some (cmpE a0 a1 b0 b1) := by
  unfold starlingref7_CompareDot.f cmpE
  rw [rcmp_s, rcmp_s]
  simp only [Option.bind_some]
  by_cases h : a0 = b0
  · subst h; rw [if_pos rfl, if_pos (by unfold cmpI; simp)]
  · rw [if_neg h, if_neg (by unfold cmpI; by_cases h1 : a0 < b0 <;> simp [h1]; omega)]
theorem cmpE_val (a0 a1 b0 b1 : Int) : cmpE a0 a1 b0 b1 = if a0 < b0 then -1 else if a0 > b0 then 1 else if a1 < b1 then -1 else if a1 > b1 then 1 else 0 := by
  unfold cmpE cmpI
  by_cases h1 : a0 < b0
  · simp [h1]
  · by_cases h2 : a0 > b0
    · simp [h1, h2]
    · simp [h1, h2]
theorem compare1 {a0 a1 b0 b1 r : Int} (h : cmpE a0 a1 b0 b1 = r) (w : World) : Calls Try.prog 20 #[.agg #[.int .i64 a0, .int .i64 a1], .agg #[.int .i64 b0, .int .i64 b1]] w fun e w' => e = .returned (.int .i64 r) ∧ Below w.heap.size w w' :=
  clock_Compare.calls 4 a0 a1 b0 b1 _ w (by rw [compare_s, h])
theorem rcompare1 {a0 a1 b0 b1 r : Int} (h : cmpE a0 a1 b0 b1 = r) (w : World) : Calls Try.prog 32 #[.agg #[.int .i64 a0, .int .i64 a1], .agg #[.int .i64 b0, .int .i64 b1]] w fun e w' => e = .returned (.int .i64 r) ∧ Below w.heap.size w w' :=
  starlingref7_CompareDot.calls a0 a1 b0 b1 _ w (by rw [rcompare_s, h])
end Go.Proofs.Ytngoopfdfihkpaa.PClockForms
