/- Chapter 13: Below, and what every program must know. The contracts. No condition. -/
import Derived.Test.YtngoopfdfihkpaaClockC
import Derived.Deep.DeepCutAuto
import Derived.Deep.CutBlock
namespace Go.Proofs.Ytngoopfdfihkpaa.Clk
open Go.RowKit Kit
set_option linter.unusedVariables false
attribute [local go_sem high] max_ints
theorem run_equalIn_8 (x0 x1 x2 x3 x4 x5 x6 x7 y0 y1 y2 y3 y4 y5 y6 y7 : Int) (w : World) : (Op.equalIn 10000 23 (.agg #[.int .i64 x0, .int .i64 x1, .int .i64 x2, .int .i64 x3, .int .i64 x4, .int .i64 x5, .int .i64 x6, .int .i64 x7]) (.agg #[.int .i64 y0, .int .i64 y1, .int .i64 y2, .int .i64 y3, .int .i64 y4, .int .i64 y5, .int .i64 y6, .int .i64 y7])).run Try.prog w = .ok (eq8 x0 x1 x2 x3 x4 x5 x6 x7 y0 y1 y2 y3 y4 y5 y6 y7) w :=
  equalIn_vec 9998 (tu x0 x1 x2 x3 x4 x5 x6 x7) (tu y0 y1 y2 y3 y4 y5 y6 y7) w
attribute [local go_sem high] run_equalIn_8
attribute [local go_sem] eq8_self
def leV (a b : Nat → Int) : Bool := eq8 (mx (a 0) (b 0)) (mx (a 1) (b 1)) (mx (a 2) (b 2)) (mx (a 3) (b 3)) (mx (a 4) (b 4)) (mx (a 5) (b 5)) (mx (a 6) (b 6)) (mx (a 7) (b 7)) (b 0) (b 1) (b 2) (b 3) (b 4) (b 5) (b 6) (b 7)
theorem eq8_iff (a b : Nat → Int) : eq8 (a 0) (a 1) (a 2) (a 3) (a 4) (a 5) (a 6) (a 7) (b 0) (b 1) (b 2) (b 3) (b 4) (b 5) (b 6) (b 7) = true ↔ ∀ i, i < 8 → a i = b i := eqV_iff a b
theorem leV_iff (a b : Nat → Int) : leV a b = true ↔ ∀ i, i < 8 → a i ≤ b i := by
  unfold leV
  rw [eq8_iff (fun i => mx (a i) (b i)) b]
  constructor
  · intro h i hi; have := h i hi; unfold mx at this; split at this <;> omega
  · intro h i hi; have := h i hi; unfold mx; split <;> omega
abbrev arr8 (a : Nat → Int) : Obj := .cells #[.int .i64 (a 0), .int .i64 (a 1), .int .i64 (a 2), .int .i64 (a 3), .int .i64 (a 4), .int .i64 (a 5), .int .i64 (a 6), .int .i64 (a 7)] 23
theorem below0 (a b : Nat → Int) (w : World) : Calls Try.prog 12 #[V a, V b] w fun e w' => e = .returned (.bool (leV a b)) ∧ Below w.heap.size w w' := by
  go_enter Try.func12, Try.ntmps12
  go_wp2_with fail
  refine wp_region_after (by kernel_rfl) (by kernel_rfl) (fun hne => ?_)
  have hN := @After.cell ((w.alloc (arr8 a)).alloc (arr8 b))
  repeat (go_big_quiet_step (first | (go_at_call 11; exact After.calls (join0 a b _))))
  refine wpQuiet_nil (after_out ?_)
  intro w2 hb2
  go_wp2_with fail
  go_ret
  exact ⟨rfl, (((Below.refl _ _).alloc (Nat.le_refl _) _).alloc (by simp) _).trans (hb2.mono (by simp; omega))⟩
theorem rbelow0 (a b : Nat → Int) (w : World) : Calls Try.prog 29 #[V a, V b] w fun e w' => e = .returned (.bool (leV a b)) ∧ Below w.heap.size w w' := by
  go_enter Try.func29, Try.ntmps29
  go_wp2_with fail
  refine wp_region_after (by kernel_rfl) (by kernel_rfl) (fun hne => ?_)
  have hN := @After.cell ((w.alloc (arr8 a)).alloc (arr8 b))
  repeat (go_big_quiet_step (first | (go_at_call 28; exact After.calls (rjoin0 a b _))))
  refine wpQuiet_nil (after_out ?_)
  intro w2 hb2
  go_wp2_with fail
  go_ret
  exact ⟨rfl, (((Below.refl _ _).alloc (Nat.le_refl _) _).alloc (by simp) _).trans (hb2.mono (by simp; omega))⟩
theorem below1 {a b : Nat → Int} {c : Bool} (h : leV a b = c) (w : World) : Calls Try.prog 12 #[V a, V b] w fun e w' => e = .returned (.bool c) ∧ Below w.heap.size w w' :=
  (below0 a b w).mono fun _ _ ⟨he, hw⟩ => ⟨by rw [he, h], hw⟩
theorem has1 {v : Nat → Int} {n k : Int} {c : Bool} (h : hasV v n k = c) (w : World) : Calls Try.prog 13 #[V v, .agg #[.int .i64 n, .int .i64 k]] w fun e w' => e = .returned (.bool c) ∧ Below w.heap.size w w' :=
  (has0 v n k w).mono fun _ _ ⟨he, hw⟩ => ⟨by rw [he, h], hw⟩
theorem may1 {v : Nat → Int} {c : Bool} (h : mayV v = c) (w : World) : Calls Try.prog 16 #[V v] w fun e w' => e = .returned (.bool c) ∧ Below w.heap.size w w' :=
  (may0 v w).mono fun _ _ ⟨he, hw⟩ => ⟨by rw [he, h], hw⟩
theorem join1 {a b r : Nat → Int} (h : ∀ i, i < 8 → mx (a i) (b i) = r i) (w : World) : Calls Try.prog 11 #[V a, V b] w fun e w' => e = .returned (V r) ∧ Below w.heap.size w w' :=
  (join0 a b w).mono fun _ _ ⟨he, hw⟩ => ⟨by rw [he]; simp only [V]; rw [h 0 (by omega), h 1 (by omega), h 2 (by omega), h 3 (by omega), h 4 (by omega), h 5 (by omega), h 6 (by omega), h 7 (by omega)], hw⟩
theorem with1 {v r : Nat → Int} {n k : Int} (h : ∀ i, i < 8 → wiV v n k i = r i) (w : World) : Calls Try.prog 14 #[V v, .agg #[.int .i64 n, .int .i64 k]] w fun e w' => e = .returned (V r) ∧ Below w.heap.size w w' :=
  (with0 v n k w).mono fun _ _ ⟨he, hw⟩ => ⟨by rw [he]; simp only [V]; rw [h 0 (by omega), h 1 (by omega), h 2 (by omega), h 3 (by omega), h 4 (by omega), h 5 (by omega), h 6 (by omega), h 7 (by omega)], hw⟩
def z8 : Nat → Int := tu 0 0 0 0 0 0 0 0
def z82 : Nat → Int := tu 2 0 0 0 0 0 0 0
theorem with_z (w : World) : Calls Try.prog 14 #[V z8, .agg #[.int .i64 0, .int .i64 2]] w fun e w' => e = .returned (V z82) ∧ Below w.heap.size w w' := by
  refine with1 (fun i hi => ?_) w
  have : i = 0 ∨ i = 1 ∨ i = 2 ∨ i = 3 ∨ i = 4 ∨ i = 5 ∨ i = 6 ∨ i = 7 := by omega
  rcases this with rfl | rfl | rfl | rfl | rfl | rfl | rfl | rfl <;> decide
theorem has_z2 (w : World) : Calls Try.prog 13 #[V z82, .agg #[.int .i64 0, .int .i64 2]] w fun e w' => e = .returned (.bool true) ∧ Below w.heap.size w w' := has1 (by decide) w
theorem has_z3 (w : World) : Calls Try.prog 13 #[V z82, .agg #[.int .i64 0, .int .i64 3]] w fun e w' => e = .returned (.bool false) ∧ Below w.heap.size w w' := has1 (by decide) w
theorem below_z (w : World) : Calls Try.prog 12 #[.agg #[.int .i64 0, .int .i64 0, .int .i64 0, .int .i64 0, .int .i64 0, .int .i64 0, .int .i64 0, .int .i64 0], V z82] w fun e w' => e = .returned (.bool true) ∧ Below w.heap.size w w' := below1 (a := z8) (b := z82) (by decide) w
set_option maxHeartbeats 1000000 in
theorem awake0 (w : World) : Calls Try.prog 15 #[] w fun e w' => e = .returned (.bool true) ∧ Below w.heap.size w w' := by
  go_enter Try.func15, Try.ntmps15
  go_wp2_with fail
  refine (with_z _).mono ?_
  rintro e w1 ⟨rfl, hb1⟩
  go_upto_region 2 with fail
  refine wp_region_text _ (Below.refl _ _) (fun hne => ?_)
  have hN := @After.cell (w1.alloc (Obj.cells #[Value.int IntKind.i64 (z82 0), Value.int IntKind.i64 (z82 1), Value.int IntKind.i64 (z82 2), Value.int IntKind.i64 (z82 3), Value.int IntKind.i64 (z82 4), Value.int IntKind.i64 (z82 5), Value.int IntKind.i64 (z82 6), Value.int IntKind.i64 (z82 7)] 23))
  repeat (go_big_quiet_step (first | (go_at_call 13; first | (with_reducible exact After.calls (has_z2 _)) | (with_reducible exact After.calls (has_z3 _))) | (go_at_call 12; with_reducible exact After.calls (below_z _))))
  refine wpQuiet_nil (after_out ?_)
  intro w2 hb2
  go_wp2_with fail
  go_ret
  exact ⟨rfl, (hb1.alloc hb1.size _).trans (hb2.mono (by have := hb1.size; simp; omega))⟩
end Go.Proofs.Ytngoopfdfihkpaa.Clk
