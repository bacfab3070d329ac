/- The contracts of chapter 9's functions, program's and reference's, each in one closed form. -/
import Derived.Test.YtngoopfdfihkpaaPEntryFormsx3
import Derived.Test.YtngoopfdfihkpaaEntF
import Derived.Handy
namespace Go.Proofs.Ytngoopfdfihkpaa.PEntryForms
open Go.RowKit Go.Proofs.YtngoopfdfihkpaaW.PrintWords Go.Proofs.YtngoopfdfihkpaaW.PrintLast

theorem rnode_s (a : Int) : starlingref1_Node.f a = some (isNode a) := by
  unfold starlingref1_Node.f isNode
  by_cases h : a ≥ 0
  · rw [if_pos h]; congr 1; simp; omega
  · rw [if_neg h]; congr 1; simp; omega
theorem rmay_s (e o : Int) : starlingref7_MayEntry.f e o = some (mayE e o) := by
  unfold starlingref7_MayEntry.f
  simp only [rnode_s, Option.bind_some]
  unfold mayE isNode
  by_cases h1 : e = 0 <;> by_cases h2 : o = 0 <;> by_cases h3 : e ≥ 1 <;> by_cases h4 : e ≤ 1000000 <;> simp [h1, h2, h3, h4] <;> omega
def flE (e o t : Int) : Int × Int × Int := if mayE e o = true ∧ isNode t = true then (if e = 1000000 then (0, 0, 6) else (wrap64 (e + 1), t, 0)) else (0, 0, 1)
theorem rflip_s (k : Nat) (hk : 1 ≤ k) (e o t : Int) : starlingref7_Flip.f k e o t = some (flE e o t) := by
  obtain ⟨j, rfl⟩ : ∃ j, k = j + 1 := ⟨k - 1, by omega⟩
  unfold starlingref7_Flip.f flE
  rw [rmay_s, rnode_s]
  simp only [Option.bind_some]
  cases mayE e o <;> cases isNode t <;> simp [starlingref7_Flip.j0]
  split <;> rfl
theorem rcmp_s (a b : Int) : starlingref7_cmp.f a b = some (cmpI a b) := by
  unfold starlingref7_cmp.f cmpI
  by_cases h : a < b
  · rw [if_pos h, if_pos h]
  · rw [if_neg h, if_neg h]
    by_cases h' : a > b
    · rw [if_pos h', if_pos h']
    · rw [if_neg h', if_neg h']
theorem rcompare_s (a0 a1 b0 b1 : Int) : starlingref7_CompareEntry.f a0 a1 b0 b1 = some (cmpE a0 a1 b0 b1) := by
  unfold starlingref7_CompareEntry.f cmpE
  rw [rcmp_s, rcmp_s]
  simp only [Option.bind_some]
  by_cases h : a0 = b0
  · subst h; rw [if_pos rfl, if_pos (by unfold cmpI; simp)]
  · rw [if_neg h, if_neg (by unfold cmpI; by_cases h1 : a0 < b0 <;> simp [h1]; omega)]
def joE (a0 a1 b0 b1 : Int) : Int × Int := if cmpE b0 b1 a0 a1 > 0 then (b0, b1) else (a0, a1)
theorem rjoin_s (a0 a1 b0 b1 : Int) : starlingref7_JoinEntry.f a0 a1 b0 b1 = some (joE a0 a1 b0 b1) := by
  unfold starlingref7_JoinEntry.f joE
  rw [rcompare_s]
  simp only [Option.bind_some]
  split <;> rfl
theorem join_s (a0 a1 b0 b1 : Int) : entry_Join.f 4 a0 a1 b0 b1 = some (joE a0 a1 b0 b1) := by
  unfold entry_Join.f joE
  rw [compare_s 4 (by omega)]
  simp only [Option.bind_some]
  split <;> rfl

/-- An entry, as a value. -/
def enV (a0 a1 : Int) : Value := .agg #[.int .i64 a0, .int .i64 a1]

theorem may_c (a0 a1 : Int) (w : World) : Calls Try.prog 18 #[.agg #[.int .i64 a0, .int .i64 a1]] w fun e w' => e = .returned (.bool (mayE a0 a1)) ∧ Below w.heap.size w w' :=
  entry_May.calls a0 a1 _ w (may_s a0 a1)
theorem rmay_c (a0 a1 : Int) (w : World) : Calls Try.prog 22 #[.agg #[.int .i64 a0, .int .i64 a1]] w fun e w' => e = .returned (.bool (mayE a0 a1)) ∧ Below w.heap.size w w' :=
  starlingref7_MayEntry.calls a0 a1 _ w (rmay_s a0 a1)
theorem flip_c (a0 a1 t : Int) (w : World) : Calls Try.prog 17 #[.agg #[.int .i64 a0, .int .i64 a1], .int .i64 t] w fun e w' =>
    e = .returned (.tuple #[.agg #[.int .i64 (flE a0 a1 t).1, .int .i64 (flE a0 a1 t).2.1], .int .i64 (flE a0 a1 t).2.2]) ∧ Below w.heap.size w w' :=
  entry_Flip.calls 1 a0 a1 t _ _ _ w (flip_s 1 (by omega) a0 a1 t)
theorem rflip_c (a0 a1 t : Int) (w : World) : Calls Try.prog 21 #[.agg #[.int .i64 a0, .int .i64 a1], .int .i64 t] w fun e w' =>
    e = .returned (.tuple #[.agg #[.int .i64 (flE a0 a1 t).1, .int .i64 (flE a0 a1 t).2.1], .int .i64 (flE a0 a1 t).2.2]) ∧ Below w.heap.size w w' :=
  starlingref7_Flip.calls 1 a0 a1 t _ _ _ w (rflip_s 1 (by omega) a0 a1 t)
theorem compare_c (a0 a1 b0 b1 : Int) (w : World) : Calls Try.prog 23 #[.agg #[.int .i64 a0, .int .i64 a1], .agg #[.int .i64 b0, .int .i64 b1]] w fun e w' => e = .returned (.int .i64 (cmpE a0 a1 b0 b1)) ∧ Below w.heap.size w w' :=
  entry_Compare.calls 4 a0 a1 b0 b1 _ w (compare_s 4 (by omega) a0 a1 b0 b1)
theorem rcompare_c (a0 a1 b0 b1 : Int) (w : World) : Calls Try.prog 24 #[.agg #[.int .i64 a0, .int .i64 a1], .agg #[.int .i64 b0, .int .i64 b1]] w fun e w' => e = .returned (.int .i64 (cmpE a0 a1 b0 b1)) ∧ Below w.heap.size w w' :=
  starlingref7_CompareEntry.calls a0 a1 b0 b1 _ w (rcompare_s a0 a1 b0 b1)
theorem join_c (a0 a1 b0 b1 : Int) (w : World) : Calls Try.prog 25 #[.agg #[.int .i64 a0, .int .i64 a1], .agg #[.int .i64 b0, .int .i64 b1]] w fun e w' =>
    e = .returned (.agg #[.int .i64 (joE a0 a1 b0 b1).1, .int .i64 (joE a0 a1 b0 b1).2]) ∧ Below w.heap.size w w' :=
  entry_Join.calls 4 a0 a1 b0 b1 _ _ w (join_s a0 a1 b0 b1)
theorem rjoin_c (a0 a1 b0 b1 : Int) (w : World) : Calls Try.prog 26 #[.agg #[.int .i64 a0, .int .i64 a1], .agg #[.int .i64 b0, .int .i64 b1]] w fun e w' =>
    e = .returned (.agg #[.int .i64 (joE a0 a1 b0 b1).1, .int .i64 (joE a0 a1 b0 b1).2]) ∧ Below w.heap.size w w' :=
  starlingref7_JoinEntry.calls a0 a1 b0 b1 _ _ w (rjoin_s a0 a1 b0 b1)
theorem awake_c (w : World) : Calls Try.prog 19 #[] w fun e w' => e = .returned (.bool true) ∧ Below w.heap.size w w' :=
  starlinglaw9_awake.calls 4 true w (awake_s 4 (by omega))
end Go.Proofs.Ytngoopfdfihkpaa.PEntryForms
