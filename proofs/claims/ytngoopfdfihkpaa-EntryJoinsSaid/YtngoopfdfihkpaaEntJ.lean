import Derived.Test.YtngoopfdfihkpaaPEntryJoinsx2
namespace Go.Proofs.Ytngoopfdfihkpaa.PEntryJoins
open Go.RowKit Go.Proofs.YtngoopfdfihkpaaW.PrintWords Go.Proofs.YtngoopfdfihkpaaW.PrintLast

/-! The printed functions of chapter 9, in closed form: no Go, no memory. -/
def isNode (a : Int) : Bool := decide (0 ≤ a ∧ a < 8)
theorem isNode_t {a : Int} : isNode a = true ↔ 0 ≤ a ∧ a < 8 := by unfold isNode; simp
theorem isNode_f {a : Int} : isNode a = false ↔ ¬ (0 ≤ a ∧ a < 8) := by rw [← isNode_t]; simp

theorem node_s (a : Int) : entry_node.f a = some (isNode a) := by
  unfold entry_node.f isNode
  by_cases h : a ≥ 0
  · rw [if_pos h]; congr 1; simp; omega
  · rw [if_neg h]; congr 1; simp; omega

def mayE (e o : Int) : Bool := decide ((e = 0 ∧ o = 0) ∨ (1 ≤ e ∧ e ≤ 1000000 ∧ 0 ≤ o ∧ o < 8))
theorem mayE_t {e o : Int} : mayE e o = true ↔ (e = 0 ∧ o = 0) ∨ (1 ≤ e ∧ e ≤ 1000000 ∧ 0 ≤ o ∧ o < 8) := by unfold mayE; simp
theorem mayE_f {e o : Int} : mayE e o = false ↔ ¬ ((e = 0 ∧ o = 0) ∨ (1 ≤ e ∧ e ≤ 1000000 ∧ 0 ≤ o ∧ o < 8)) := by rw [← mayE_t]; simp

theorem may_s (e o : Int) : entry_May.f e o = some (mayE e o) := by
  unfold entry_May.f
  rw [node_s]
  simp only [Option.bind_some]
  by_cases h : (e == 0 && (o == 0)) = true
  · rw [if_pos h]
    have h' : e = 0 ∧ o = 0 := by simpa using h
    congr 1; symm; rw [mayE_t]; omega
  · rw [if_neg h]
    have h' : ¬ (e = 0 ∧ o = 0) := by simpa using h
    by_cases h1 : e ≥ 1
    · rw [if_pos h1]
      by_cases h2 : e ≤ 1000000
      · rw [if_pos h2]; congr 1
        unfold isNode mayE; congr 1; apply propext; omega
      · rw [if_neg h2]; congr 1; symm; rw [mayE_f]; omega
    · rw [if_neg h1]; congr 1; symm; rw [mayE_f]; omega

def cmpI (a b : Int) : Int := if a < b then -1 else if a > b then 1 else 0
theorem cmp_s (a b : Int) : cmp_Compare_int.f a b = some (cmpI a b) := by
  unfold cmp_Compare_int.f cmp_isNaN_int.f cmpI
  simp only [Option.bind_some, bne_self_eq_false, Bool.false_eq_true, if_false]
  by_cases h1 : a < b
  · rw [if_pos h1, if_pos h1]
  · rw [if_neg h1, if_neg h1]
    by_cases h2 : a > b
    · rw [if_pos h2, if_pos h2]
    · rw [if_neg h2, if_neg h2]

theorem or_s (k : Nat) (hk : 4 ≤ k) (x y : Int) : cmp_Or_int.f k [x, y] = some (if x = 0 then y else x) := by
  obtain ⟨j, rfl⟩ : ∃ j, k = j + 4 := ⟨k - 4, by omega⟩
  by_cases hx : x = 0
  · by_cases hy : y = 0
    · subst hx; subst hy; simp [cmp_Or_int.f, cmp_Or_int.l0, rd, wrap64]
    · subst hx; simp [cmp_Or_int.f, cmp_Or_int.l0, rd, wrap64, hy]
  · simp [cmp_Or_int.f, cmp_Or_int.l0, rd, hx]

def cmpE (a0 a1 b0 b1 : Int) : Int := if cmpI a0 b0 = 0 then cmpI a1 b1 else cmpI a0 b0
theorem compare_s (k : Nat) (hk : 4 ≤ k) (a0 a1 b0 b1 : Int) : entry_Compare.f k a0 a1 b0 b1 = some (cmpE a0 a1 b0 b1) := by
  unfold entry_Compare.f cmpE
  rw [cmp_s, cmp_s]
  simp only [Option.bind_some]
  rw [or_s k hk]
  rfl

theorem flip_s (k : Nat) (hk : 1 ≤ k) (e o t : Int) : entry_Flip.f k e o t =
    some (if mayE e o = true ∧ isNode t = true then (if e = 1000000 then (0, 0, 6) else (wrap64 (e + 1), t, 0)) else (0, 0, 1)) := by
  obtain ⟨j, rfl⟩ : ∃ j, k = j + 1 := ⟨k - 1, by omega⟩
  unfold entry_Flip.f
  rw [may_s, node_s]
  simp only [Option.bind_some]
  cases mayE e o <;> cases isNode t <;> simp [entry_Flip.j0]
  split <;> rfl

theorem flip_ok (k : Nat) (hk : 1 ≤ k) (e o t : Int) (h : mayE e o = true) (ht : isNode t = true) (he : e ≠ 1000000) :
    entry_Flip.f k e o t = some (e + 1, t, 0) := by
  rw [flip_s k hk, if_pos ⟨h, ht⟩, if_neg he]
  have hm := mayE_t.1 h
  have : wrap64 (e + 1) = e + 1 := by unfold wrap64; omega
  rw [this]

theorem cmpE_1020 : cmpE 2 3 1 0 = 1 := by decide

theorem awake_s (k : Nat) (hk : 4 ≤ k) : starlinglaw9_awake.f k = some true := by
  unfold starlinglaw9_awake.f
  rw [flip_ok k (by omega) 1 0 3 (by decide) (by decide) (by decide)]
  simp only [Option.bind_some]
  rw [if_pos trivial, if_pos (by decide), may_s]
  simp only [Option.bind_some]
  rw [if_pos (by decide), compare_s k hk]
  simp only [Option.bind_some]
  decide

end Go.Proofs.Ytngoopfdfihkpaa.PEntryJoins
