/- Chapter 13's functions, program's and reference's: the contract of each. Conditions: the numbers are those of the arguments. -/
import Derived.Test.YtngoopfdfihkpaaProg
import Derived.Test.YtngoopfdfihkpaaKit
import Derived.BigRegion
namespace Go.Proofs.Ytngoopfdfihkpaa.Clk
open Go.RowKit Kit
set_option linter.unusedVariables false
/-- A vector, as a value. -/
@[reducible] def V (a : Nat → Int) : Value := .agg #[.int .i64 (a 0), .int .i64 (a 1), .int .i64 (a 2), .int .i64 (a 3), .int .i64 (a 4), .int .i64 (a 5), .int .i64 (a 6), .int .i64 (a 7)]
def mx (x y : Int) : Int := if x < y then y else x
theorem max_ints (ats : Array TypeId) (ty : TypeId) (x y : Int) : Builtin.max_ ats ty #[.int .i64 x, .int .i64 y] = pure (.int .i64 (mx x y)) := by
  unfold mx; simp [Builtin.max_, Builtin.max2]
attribute [local go_sem high] max_ints
def eqV (a b : Nat → Int) : Bool := a 0 == b 0 && (a 1 == b 1 && (a 2 == b 2 && (a 3 == b 3 && (a 4 == b 4 && (a 5 == b 5 && (a 6 == b 6 && a 7 == b 7))))))
theorem eqV_iff (a b : Nat → Int) : eqV a b = true ↔ ∀ i, i < 8 → a i = b i := by
  unfold eqV
  simp only [Bool.and_eq_true, beq_iff_eq]
  constructor
  · intro ⟨h0, h1, h2, h3, h4, h5, h6, h7⟩ i hi
    have : i = 0 ∨ i = 1 ∨ i = 2 ∨ i = 3 ∨ i = 4 ∨ i = 5 ∨ i = 6 ∨ i = 7 := by omega
    rcases this with rfl | rfl | rfl | rfl | rfl | rfl | rfl | rfl <;> assumption
  · intro h
    exact ⟨h 0 (by omega), h 1 (by omega), h 2 (by omega), h 3 (by omega), h 4 (by omega), h 5 (by omega), h 6 (by omega), h 7 (by omega)⟩
theorem eqV_self (a : Nat → Int) : eqV a a = true := by rw [eqV_iff]; intros; rfl
theorem equalIn_vec (d : Nat) (a b : Nat → Int) (w : World) : (Op.equalIn (d + 2) 23 (V a) (V b)).run Try.prog w = .ok (eqV a b) w := by
  rw [Op.equalIn]
  simp only [Sem.run_bind, run_underlying Try.underlying23, Result.andThen_ok]
  simp [go_sem, List.range'_succ]
  unfold eqV
  repeat' split
  all_goals simp_all
def eq8 (x0 x1 x2 x3 x4 x5 x6 x7 y0 y1 y2 y3 y4 y5 y6 y7 : Int) : Bool := x0 == y0 && (x1 == y1 && (x2 == y2 && (x3 == y3 && (x4 == y4 && (x5 == y5 && (x6 == y6 && x7 == y7))))))
theorem eq8_self (x0 x1 x2 x3 x4 x5 x6 x7 : Int) : eq8 x0 x1 x2 x3 x4 x5 x6 x7 x0 x1 x2 x3 x4 x5 x6 x7 = true := by unfold eq8; simp
def tu (x0 x1 x2 x3 x4 x5 x6 x7 : Int) : Nat → Int | 0 => x0 | 1 => x1 | 2 => x2 | 3 => x3 | 4 => x4 | 5 => x5 | 6 => x6 | _ => x7
theorem run_eql_8 (x0 x1 x2 x3 x4 x5 x6 x7 y0 y1 y2 y3 y4 y5 y6 y7 : Int) (w : World) : (binOp .eql 23 (.agg #[.int .i64 x0, .int .i64 x1, .int .i64 x2, .int .i64 x3, .int .i64 x4, .int .i64 x5, .int .i64 x6, .int .i64 x7]) (.agg #[.int .i64 y0, .int .i64 y1, .int .i64 y2, .int .i64 y3, .int .i64 y4, .int .i64 y5, .int .i64 y6, .int .i64 y7])).run Try.prog w = .ok (.bool (eq8 x0 x1 x2 x3 x4 x5 x6 x7 y0 y1 y2 y3 y4 y5 y6 y7)) w := by
  rw [run_eql_struct]
  have := equalIn_vec 9998 (tu x0 x1 x2 x3 x4 x5 x6 x7) (tu y0 y1 y2 y3 y4 y5 y6 y7) w
  simp only [V, tu] at this
  rw [this]; rfl
theorem run_neq_8 (x0 x1 x2 x3 x4 x5 x6 x7 y0 y1 y2 y3 y4 y5 y6 y7 : Int) (w : World) : (binOp .neq 23 (.agg #[.int .i64 x0, .int .i64 x1, .int .i64 x2, .int .i64 x3, .int .i64 x4, .int .i64 x5, .int .i64 x6, .int .i64 x7]) (.agg #[.int .i64 y0, .int .i64 y1, .int .i64 y2, .int .i64 y3, .int .i64 y4, .int .i64 y5, .int .i64 y6, .int .i64 y7])).run Try.prog w = .ok (.bool (!eq8 x0 x1 x2 x3 x4 x5 x6 x7 y0 y1 y2 y3 y4 y5 y6 y7)) w := by
  rw [run_neq_struct]
  have := equalIn_vec 9998 (tu x0 x1 x2 x3 x4 x5 x6 x7) (tu y0 y1 y2 y3 y4 y5 y6 y7) w
  simp only [V, tu] at this
  rw [this]; rfl

theorem idx0 (x0 x1 x2 x3 x4 x5 x6 x7 : Value) (w : World) : (Instr.index 23 (.agg #[x0, x1, x2, x3, x4, x5, x6, x7]) (.int .i64 0)).run Try.prog w = .ok x0 w := by kernel_rfl
theorem idx1 (x0 x1 x2 x3 x4 x5 x6 x7 : Value) (w : World) : (Instr.index 23 (.agg #[x0, x1, x2, x3, x4, x5, x6, x7]) (.int .i64 1)).run Try.prog w = .ok x1 w := by kernel_rfl
theorem idx2 (x0 x1 x2 x3 x4 x5 x6 x7 : Value) (w : World) : (Instr.index 23 (.agg #[x0, x1, x2, x3, x4, x5, x6, x7]) (.int .i64 2)).run Try.prog w = .ok x2 w := by kernel_rfl
theorem idx3 (x0 x1 x2 x3 x4 x5 x6 x7 : Value) (w : World) : (Instr.index 23 (.agg #[x0, x1, x2, x3, x4, x5, x6, x7]) (.int .i64 3)).run Try.prog w = .ok x3 w := by kernel_rfl
theorem idx4 (x0 x1 x2 x3 x4 x5 x6 x7 : Value) (w : World) : (Instr.index 23 (.agg #[x0, x1, x2, x3, x4, x5, x6, x7]) (.int .i64 4)).run Try.prog w = .ok x4 w := by kernel_rfl
theorem idx5 (x0 x1 x2 x3 x4 x5 x6 x7 : Value) (w : World) : (Instr.index 23 (.agg #[x0, x1, x2, x3, x4, x5, x6, x7]) (.int .i64 5)).run Try.prog w = .ok x5 w := by kernel_rfl
theorem idx6 (x0 x1 x2 x3 x4 x5 x6 x7 : Value) (w : World) : (Instr.index 23 (.agg #[x0, x1, x2, x3, x4, x5, x6, x7]) (.int .i64 6)).run Try.prog w = .ok x6 w := by kernel_rfl
theorem idx7 (x0 x1 x2 x3 x4 x5 x6 x7 : Value) (w : World) : (Instr.index 23 (.agg #[x0, x1, x2, x3, x4, x5, x6, x7]) (.int .i64 7)).run Try.prog w = .ok x7 w := by kernel_rfl
attribute [local go_sem] idx0 idx1 idx2 idx3 idx4 idx5 idx6 idx7

theorem joinRet (r : Nat → Int) : V r = V r := rfl
set_option maxHeartbeats 2000000 in
theorem join0 (a b : Nat → Int) (w : World) : Calls Try.prog 11 #[V a, V b] w fun e w' => e = .returned (V fun i => mx (a i) (b i)) ∧ Below w.heap.size w w' := by
  go_enter Try.func11, Try.ntmps11
  go_wp2_with fail
  go_rounds 9
  go_returns
  exact ⟨rfl, by go_grown⟩


set_option maxHeartbeats 2000000 in
theorem rjoin0 (a b : Nat → Int) (w : World) : Calls Try.prog 28 #[V a, V b] w fun e w' => e = .returned (V fun i => mx (a i) (b i)) ∧ Below w.heap.size w w' := by
  go_enter Try.func28, Try.ntmps28
  go_wp2_with fail
  refine wp_loop_rounds 9 ?_
  repeat (rw [rounds_succ]; go_wp2_with fail; try (go_region; go_wp2_with fail))
  go_returns
  exact ⟨rfl, by go_grown⟩

def mayV (v : Nat → Int) : Bool := decide (0 ≤ v 0 ∧ v 0 ≤ 1000000 ∧ 0 ≤ v 1 ∧ v 1 ≤ 1000000 ∧ 0 ≤ v 2 ∧ v 2 ≤ 1000000 ∧ 0 ≤ v 3 ∧ v 3 ≤ 1000000 ∧ 0 ≤ v 4 ∧ v 4 ≤ 1000000 ∧ 0 ≤ v 5 ∧ v 5 ≤ 1000000 ∧ 0 ≤ v 6 ∧ v 6 ≤ 1000000 ∧ 0 ≤ v 7 ∧ v 7 ≤ 1000000)
theorem mayV_iff (v : Nat → Int) : mayV v = true ↔ ∀ i, i < 8 → 0 ≤ v i ∧ v i ≤ 1000000 := by
  unfold mayV
  simp only [decide_eq_true_eq]
  constructor
  · intro h i hi
    have : i = 0 ∨ i = 1 ∨ i = 2 ∨ i = 3 ∨ i = 4 ∨ i = 5 ∨ i = 6 ∨ i = 7 := by omega
    rcases this with rfl | rfl | rfl | rfl | rfl | rfl | rfl | rfl <;> omega
  · intro h
    have h0 := h 0 (by omega); have h1 := h 1 (by omega); have h2 := h 2 (by omega); have h3 := h 3 (by omega)
    have h4 := h 4 (by omega); have h5 := h 5 (by omega); have h6 := h 6 (by omega); have h7 := h 7 (by omega)
    omega
theorem retB (a b : Bool) (h : a = b) : Ending.returned (.bool a) = .returned (.bool b) := by rw [h]

set_option maxHeartbeats 2000000 in
theorem may0 (v : Nat → Int) (w : World) : Calls Try.prog 16 #[V v] w fun e w' => e = .returned (.bool (mayV v)) ∧ Below w.heap.size w w' := by
  go_enter Try.func16, Try.ntmps16
  go_wp2_with fail
  go_rounds 9
  all_goals (go_returns; exact ⟨retB _ _ (by symm; unfold mayV; simp; omega), by go_grown⟩)

set_option maxHeartbeats 2000000 in
theorem rmay0 (v : Nat → Int) (w : World) : Calls Try.prog 27 #[V v] w fun e w' => e = .returned (.bool (mayV v)) ∧ Below w.heap.size w w' := by
  go_enter Try.func27, Try.ntmps27
  go_wp2_with fail
  go_rounds 9
  all_goals (go_returns; exact ⟨retB _ _ (by symm; unfold mayV; simp; omega), by go_grown⟩)

def nodeB (n : Int) : Bool := decide (0 ≤ n ∧ n < 8)
def hasV (v : Nat → Int) (n k : Int) : Bool := decide (0 ≤ n ∧ n < 8 ∧ 1 ≤ k ∧ k ≤ v n.toNat)
theorem eight {n : Int} (h0 : 0 ≤ n) (h1 : n < 8) : n = 0 ∨ n = 1 ∨ n = 2 ∨ n = 3 ∨ n = 4 ∨ n = 5 ∨ n = 6 ∨ n = 7 := by omega

theorem node0 (n : Int) (w : World) : Calls Try.prog 33 #[.int .i64 n] w fun e w' => e = .returned (.bool (nodeB n)) ∧ w = w' := by
  by_cases h : 0 ≤ n
  · go_enter Try.func33, Try.ntmps33
    go_wp2
    go_ret
    exact ⟨retB _ _ (by unfold nodeB; simp [h]), rfl⟩
  · go_enter Try.func33, Try.ntmps33
    go_wp2
    go_ret
    exact ⟨retB _ _ (by unfold nodeB; simp; omega), rfl⟩

theorem rnode0 (n : Int) (w : World) : Calls Try.prog 37 #[.int .i64 n] w fun e w' => e = .returned (.bool (nodeB n)) ∧ w = w' := by
  by_cases h : 0 ≤ n
  · go_enter Try.func37, Try.ntmps37
    go_wp2
    go_ret
    exact ⟨retB _ _ (by unfold nodeB; simp [h]), rfl⟩
  · go_enter Try.func37, Try.ntmps37
    go_wp2
    go_ret
    exact ⟨retB _ _ (by unfold nodeB; simp; omega), rfl⟩

theorem node2 {n : Int} {c : Bool} (h : nodeB n = c) (w : World) : Calls Try.prog 33 #[.int .i64 n] w fun e w' => e = .returned (.bool c) ∧ w = w' :=
  (node0 n w).mono fun _ _ ⟨he, hw⟩ => ⟨by rw [he, h], hw⟩
theorem node1 {n : Int} {c : Bool} (h : nodeB n = c) (w : World) : Calls Try.prog 33 #[.int .i64 n] w fun e w' => e = .returned (.bool c) ∧ Below w.heap.size w w' :=
  (node0 n w).mono fun _ _ ⟨he, hw⟩ => ⟨by rw [he, h], by rw [← hw]; exact Below.refl _ _⟩
theorem rnode2 {n : Int} {c : Bool} (h : nodeB n = c) (w : World) : Calls Try.prog 37 #[.int .i64 n] w fun e w' => e = .returned (.bool c) ∧ w = w' :=
  (rnode0 n w).mono fun _ _ ⟨he, hw⟩ => ⟨by rw [he, h], hw⟩
theorem rnode1 {n : Int} {c : Bool} (h : nodeB n = c) (w : World) : Calls Try.prog 37 #[.int .i64 n] w fun e w' => e = .returned (.bool c) ∧ Below w.heap.size w w' :=
  (rnode0 n w).mono fun _ _ ⟨he, hw⟩ => ⟨by rw [he, h], by rw [← hw]; exact Below.refl _ _⟩
set_option maxHeartbeats 4000000 in
theorem has0 (v : Nat → Int) (n k : Int) (w : World) : Calls Try.prog 13 #[V v, .agg #[.int .i64 n, .int .i64 k]] w fun e w' => e = .returned (.bool (hasV v n k)) ∧ Below w.heap.size w w' := by
  by_cases hn : 0 ≤ n ∧ n < 8
  · have hb : nodeB n = true := by unfold nodeB; simp [hn]
    by_cases hk : 1 ≤ k
    · have e8 := eight hn.1 hn.2
      rcases e8 with rfl | rfl | rfl | rfl | rfl | rfl | rfl | rfl
      · go_enter Try.func13, Try.ntmps13
        go_wp2_with fail
        refine wp_region_after (by kernel_rfl) (by kernel_rfl) (fun hne => ?_)
        have hN := @After.cell ((w.alloc (.cells #[.int .i64 (v 0), .int .i64 (v 1), .int .i64 (v 2), .int .i64 (v 3), .int .i64 (v 4), .int .i64 (v 5), .int .i64 (v 6), .int .i64 (v 7)] 23)).alloc (.cells #[.int .i64 (0), .int .i64 k] 25))
        repeat (go_big_quiet_step (first | (go_at_call 33; exact After.calls (node1 (by decide) _)) | (go_at_call 33; exact After.calls (node1 hb _))))
        refine wpQuiet_nil (after_out ?_)
        intro w2 hb2
        go_wp2_with fail
        go_ret
        exact ⟨retB _ _ (by unfold hasV; simp; try omega), (((Below.refl _ _).alloc (Nat.le_refl _) _).alloc (by simp) _).trans (hb2.mono (by simp; omega))⟩
      · go_enter Try.func13, Try.ntmps13
        go_wp2_with fail
        refine wp_region_after (by kernel_rfl) (by kernel_rfl) (fun hne => ?_)
        have hN := @After.cell ((w.alloc (.cells #[.int .i64 (v 0), .int .i64 (v 1), .int .i64 (v 2), .int .i64 (v 3), .int .i64 (v 4), .int .i64 (v 5), .int .i64 (v 6), .int .i64 (v 7)] 23)).alloc (.cells #[.int .i64 (1), .int .i64 k] 25))
        repeat (go_big_quiet_step (first | (go_at_call 33; exact After.calls (node1 (by decide) _)) | (go_at_call 33; exact After.calls (node1 hb _))))
        refine wpQuiet_nil (after_out ?_)
        intro w2 hb2
        go_wp2_with fail
        go_ret
        exact ⟨retB _ _ (by unfold hasV; simp; try omega), (((Below.refl _ _).alloc (Nat.le_refl _) _).alloc (by simp) _).trans (hb2.mono (by simp; omega))⟩
      · go_enter Try.func13, Try.ntmps13
        go_wp2_with fail
        refine wp_region_after (by kernel_rfl) (by kernel_rfl) (fun hne => ?_)
        have hN := @After.cell ((w.alloc (.cells #[.int .i64 (v 0), .int .i64 (v 1), .int .i64 (v 2), .int .i64 (v 3), .int .i64 (v 4), .int .i64 (v 5), .int .i64 (v 6), .int .i64 (v 7)] 23)).alloc (.cells #[.int .i64 (2), .int .i64 k] 25))
        repeat (go_big_quiet_step (first | (go_at_call 33; exact After.calls (node1 (by decide) _)) | (go_at_call 33; exact After.calls (node1 hb _))))
        refine wpQuiet_nil (after_out ?_)
        intro w2 hb2
        go_wp2_with fail
        go_ret
        exact ⟨retB _ _ (by unfold hasV; simp; try omega), (((Below.refl _ _).alloc (Nat.le_refl _) _).alloc (by simp) _).trans (hb2.mono (by simp; omega))⟩
      · go_enter Try.func13, Try.ntmps13
        go_wp2_with fail
        refine wp_region_after (by kernel_rfl) (by kernel_rfl) (fun hne => ?_)
        have hN := @After.cell ((w.alloc (.cells #[.int .i64 (v 0), .int .i64 (v 1), .int .i64 (v 2), .int .i64 (v 3), .int .i64 (v 4), .int .i64 (v 5), .int .i64 (v 6), .int .i64 (v 7)] 23)).alloc (.cells #[.int .i64 (3), .int .i64 k] 25))
        repeat (go_big_quiet_step (first | (go_at_call 33; exact After.calls (node1 (by decide) _)) | (go_at_call 33; exact After.calls (node1 hb _))))
        refine wpQuiet_nil (after_out ?_)
        intro w2 hb2
        go_wp2_with fail
        go_ret
        exact ⟨retB _ _ (by unfold hasV; simp; try omega), (((Below.refl _ _).alloc (Nat.le_refl _) _).alloc (by simp) _).trans (hb2.mono (by simp; omega))⟩
      · go_enter Try.func13, Try.ntmps13
        go_wp2_with fail
        refine wp_region_after (by kernel_rfl) (by kernel_rfl) (fun hne => ?_)
        have hN := @After.cell ((w.alloc (.cells #[.int .i64 (v 0), .int .i64 (v 1), .int .i64 (v 2), .int .i64 (v 3), .int .i64 (v 4), .int .i64 (v 5), .int .i64 (v 6), .int .i64 (v 7)] 23)).alloc (.cells #[.int .i64 (4), .int .i64 k] 25))
        repeat (go_big_quiet_step (first | (go_at_call 33; exact After.calls (node1 (by decide) _)) | (go_at_call 33; exact After.calls (node1 hb _))))
        refine wpQuiet_nil (after_out ?_)
        intro w2 hb2
        go_wp2_with fail
        go_ret
        exact ⟨retB _ _ (by unfold hasV; simp; try omega), (((Below.refl _ _).alloc (Nat.le_refl _) _).alloc (by simp) _).trans (hb2.mono (by simp; omega))⟩
      · go_enter Try.func13, Try.ntmps13
        go_wp2_with fail
        refine wp_region_after (by kernel_rfl) (by kernel_rfl) (fun hne => ?_)
        have hN := @After.cell ((w.alloc (.cells #[.int .i64 (v 0), .int .i64 (v 1), .int .i64 (v 2), .int .i64 (v 3), .int .i64 (v 4), .int .i64 (v 5), .int .i64 (v 6), .int .i64 (v 7)] 23)).alloc (.cells #[.int .i64 (5), .int .i64 k] 25))
        repeat (go_big_quiet_step (first | (go_at_call 33; exact After.calls (node1 (by decide) _)) | (go_at_call 33; exact After.calls (node1 hb _))))
        refine wpQuiet_nil (after_out ?_)
        intro w2 hb2
        go_wp2_with fail
        go_ret
        exact ⟨retB _ _ (by unfold hasV; simp; try omega), (((Below.refl _ _).alloc (Nat.le_refl _) _).alloc (by simp) _).trans (hb2.mono (by simp; omega))⟩
      · go_enter Try.func13, Try.ntmps13
        go_wp2_with fail
        refine wp_region_after (by kernel_rfl) (by kernel_rfl) (fun hne => ?_)
        have hN := @After.cell ((w.alloc (.cells #[.int .i64 (v 0), .int .i64 (v 1), .int .i64 (v 2), .int .i64 (v 3), .int .i64 (v 4), .int .i64 (v 5), .int .i64 (v 6), .int .i64 (v 7)] 23)).alloc (.cells #[.int .i64 (6), .int .i64 k] 25))
        repeat (go_big_quiet_step (first | (go_at_call 33; exact After.calls (node1 (by decide) _)) | (go_at_call 33; exact After.calls (node1 hb _))))
        refine wpQuiet_nil (after_out ?_)
        intro w2 hb2
        go_wp2_with fail
        go_ret
        exact ⟨retB _ _ (by unfold hasV; simp; try omega), (((Below.refl _ _).alloc (Nat.le_refl _) _).alloc (by simp) _).trans (hb2.mono (by simp; omega))⟩
      · go_enter Try.func13, Try.ntmps13
        go_wp2_with fail
        refine wp_region_after (by kernel_rfl) (by kernel_rfl) (fun hne => ?_)
        have hN := @After.cell ((w.alloc (.cells #[.int .i64 (v 0), .int .i64 (v 1), .int .i64 (v 2), .int .i64 (v 3), .int .i64 (v 4), .int .i64 (v 5), .int .i64 (v 6), .int .i64 (v 7)] 23)).alloc (.cells #[.int .i64 (7), .int .i64 k] 25))
        repeat (go_big_quiet_step (first | (go_at_call 33; exact After.calls (node1 (by decide) _)) | (go_at_call 33; exact After.calls (node1 hb _))))
        refine wpQuiet_nil (after_out ?_)
        intro w2 hb2
        go_wp2_with fail
        go_ret
        exact ⟨retB _ _ (by unfold hasV; simp; try omega), (((Below.refl _ _).alloc (Nat.le_refl _) _).alloc (by simp) _).trans (hb2.mono (by simp; omega))⟩
    · have hk' : decide (1 ≤ k) = false := by simpa using hk
      go_enter Try.func13, Try.ntmps13
      go_wp2_with fail
      refine wp_region_after (by kernel_rfl) (by kernel_rfl) (fun hne => ?_)
      have hN := @After.cell ((w.alloc (.cells #[.int .i64 (v 0), .int .i64 (v 1), .int .i64 (v 2), .int .i64 (v 3), .int .i64 (v 4), .int .i64 (v 5), .int .i64 (v 6), .int .i64 (v 7)] 23)).alloc (.cells #[.int .i64 n, .int .i64 k] 25))
      repeat (go_big_quiet_step (first | (go_at_call 33; exact After.calls (node1 (by decide) _)) | (go_at_call 33; exact After.calls (node1 hb _))))
      refine wpQuiet_nil (after_out ?_)
      intro w2 hb2
      go_wp2_with fail
      go_ret
      exact ⟨retB _ _ (by unfold hasV; simp; try omega), (((Below.refl _ _).alloc (Nat.le_refl _) _).alloc (by simp) _).trans (hb2.mono (by simp; omega))⟩
  · have hb : nodeB n = false := by unfold nodeB; simp; omega
    go_enter Try.func13, Try.ntmps13
    go_wp2_with fail
    refine wp_region_after (by kernel_rfl) (by kernel_rfl) (fun hne => ?_)
    have hN := @After.cell ((w.alloc (.cells #[.int .i64 (v 0), .int .i64 (v 1), .int .i64 (v 2), .int .i64 (v 3), .int .i64 (v 4), .int .i64 (v 5), .int .i64 (v 6), .int .i64 (v 7)] 23)).alloc (.cells #[.int .i64 n, .int .i64 k] 25))
    repeat (go_big_quiet_step (first | (go_at_call 33; exact After.calls (node1 (by decide) _)) | (go_at_call 33; exact After.calls (node1 hb _))))
    refine wpQuiet_nil (after_out ?_)
    intro w2 hb2
    go_wp2_with fail
    go_ret
    exact ⟨retB _ _ (by unfold hasV; simp; try omega), (((Below.refl _ _).alloc (Nat.le_refl _) _).alloc (by simp) _).trans (hb2.mono (by simp; omega))⟩
set_option maxHeartbeats 4000000 in
theorem rhas0 (v : Nat → Int) (n k : Int) (w : World) : Calls Try.prog 30 #[V v, .agg #[.int .i64 n, .int .i64 k]] w fun e w' => e = .returned (.bool (hasV v n k)) ∧ Below w.heap.size w w' := by
  by_cases hn : 0 ≤ n ∧ n < 8
  · have hb : nodeB n = true := by unfold nodeB; simp [hn]
    by_cases hk : 1 ≤ k
    · have e8 := eight hn.1 hn.2
      rcases e8 with rfl | rfl | rfl | rfl | rfl | rfl | rfl | rfl
      · go_enter Try.func30, Try.ntmps30
        go_wp2_with fail
        refine wp_region_after (by kernel_rfl) (by kernel_rfl) (fun hne => ?_)
        have hN := @After.cell ((w.alloc (.cells #[.int .i64 (v 0), .int .i64 (v 1), .int .i64 (v 2), .int .i64 (v 3), .int .i64 (v 4), .int .i64 (v 5), .int .i64 (v 6), .int .i64 (v 7)] 23)).alloc (.cells #[.int .i64 (0), .int .i64 k] 25))
        repeat (go_big_quiet_step (first | (go_at_call 37; exact After.calls (rnode1 (by decide) _)) | (go_at_call 37; exact After.calls (rnode1 hb _))))
        refine wpQuiet_nil (after_out ?_)
        intro w2 hb2
        go_wp2_with fail
        go_ret
        exact ⟨retB _ _ (by unfold hasV; simp; try omega), (((Below.refl _ _).alloc (Nat.le_refl _) _).alloc (by simp) _).trans (hb2.mono (by simp; omega))⟩
      · go_enter Try.func30, Try.ntmps30
        go_wp2_with fail
        refine wp_region_after (by kernel_rfl) (by kernel_rfl) (fun hne => ?_)
        have hN := @After.cell ((w.alloc (.cells #[.int .i64 (v 0), .int .i64 (v 1), .int .i64 (v 2), .int .i64 (v 3), .int .i64 (v 4), .int .i64 (v 5), .int .i64 (v 6), .int .i64 (v 7)] 23)).alloc (.cells #[.int .i64 (1), .int .i64 k] 25))
        repeat (go_big_quiet_step (first | (go_at_call 37; exact After.calls (rnode1 (by decide) _)) | (go_at_call 37; exact After.calls (rnode1 hb _))))
        refine wpQuiet_nil (after_out ?_)
        intro w2 hb2
        go_wp2_with fail
        go_ret
        exact ⟨retB _ _ (by unfold hasV; simp; try omega), (((Below.refl _ _).alloc (Nat.le_refl _) _).alloc (by simp) _).trans (hb2.mono (by simp; omega))⟩
      · go_enter Try.func30, Try.ntmps30
        go_wp2_with fail
        refine wp_region_after (by kernel_rfl) (by kernel_rfl) (fun hne => ?_)
        have hN := @After.cell ((w.alloc (.cells #[.int .i64 (v 0), .int .i64 (v 1), .int .i64 (v 2), .int .i64 (v 3), .int .i64 (v 4), .int .i64 (v 5), .int .i64 (v 6), .int .i64 (v 7)] 23)).alloc (.cells #[.int .i64 (2), .int .i64 k] 25))
        repeat (go_big_quiet_step (first | (go_at_call 37; exact After.calls (rnode1 (by decide) _)) | (go_at_call 37; exact After.calls (rnode1 hb _))))
        refine wpQuiet_nil (after_out ?_)
        intro w2 hb2
        go_wp2_with fail
        go_ret
        exact ⟨retB _ _ (by unfold hasV; simp; try omega), (((Below.refl _ _).alloc (Nat.le_refl _) _).alloc (by simp) _).trans (hb2.mono (by simp; omega))⟩
      · go_enter Try.func30, Try.ntmps30
        go_wp2_with fail
        refine wp_region_after (by kernel_rfl) (by kernel_rfl) (fun hne => ?_)
        have hN := @After.cell ((w.alloc (.cells #[.int .i64 (v 0), .int .i64 (v 1), .int .i64 (v 2), .int .i64 (v 3), .int .i64 (v 4), .int .i64 (v 5), .int .i64 (v 6), .int .i64 (v 7)] 23)).alloc (.cells #[.int .i64 (3), .int .i64 k] 25))
        repeat (go_big_quiet_step (first | (go_at_call 37; exact After.calls (rnode1 (by decide) _)) | (go_at_call 37; exact After.calls (rnode1 hb _))))
        refine wpQuiet_nil (after_out ?_)
        intro w2 hb2
        go_wp2_with fail
        go_ret
        exact ⟨retB _ _ (by unfold hasV; simp; try omega), (((Below.refl _ _).alloc (Nat.le_refl _) _).alloc (by simp) _).trans (hb2.mono (by simp; omega))⟩
      · go_enter Try.func30, Try.ntmps30
        go_wp2_with fail
        refine wp_region_after (by kernel_rfl) (by kernel_rfl) (fun hne => ?_)
        have hN := @After.cell ((w.alloc (.cells #[.int .i64 (v 0), .int .i64 (v 1), .int .i64 (v 2), .int .i64 (v 3), .int .i64 (v 4), .int .i64 (v 5), .int .i64 (v 6), .int .i64 (v 7)] 23)).alloc (.cells #[.int .i64 (4), .int .i64 k] 25))
        repeat (go_big_quiet_step (first | (go_at_call 37; exact After.calls (rnode1 (by decide) _)) | (go_at_call 37; exact After.calls (rnode1 hb _))))
        refine wpQuiet_nil (after_out ?_)
        intro w2 hb2
        go_wp2_with fail
        go_ret
        exact ⟨retB _ _ (by unfold hasV; simp; try omega), (((Below.refl _ _).alloc (Nat.le_refl _) _).alloc (by simp) _).trans (hb2.mono (by simp; omega))⟩
      · go_enter Try.func30, Try.ntmps30
        go_wp2_with fail
        refine wp_region_after (by kernel_rfl) (by kernel_rfl) (fun hne => ?_)
        have hN := @After.cell ((w.alloc (.cells #[.int .i64 (v 0), .int .i64 (v 1), .int .i64 (v 2), .int .i64 (v 3), .int .i64 (v 4), .int .i64 (v 5), .int .i64 (v 6), .int .i64 (v 7)] 23)).alloc (.cells #[.int .i64 (5), .int .i64 k] 25))
        repeat (go_big_quiet_step (first | (go_at_call 37; exact After.calls (rnode1 (by decide) _)) | (go_at_call 37; exact After.calls (rnode1 hb _))))
        refine wpQuiet_nil (after_out ?_)
        intro w2 hb2
        go_wp2_with fail
        go_ret
        exact ⟨retB _ _ (by unfold hasV; simp; try omega), (((Below.refl _ _).alloc (Nat.le_refl _) _).alloc (by simp) _).trans (hb2.mono (by simp; omega))⟩
      · go_enter Try.func30, Try.ntmps30
        go_wp2_with fail
        refine wp_region_after (by kernel_rfl) (by kernel_rfl) (fun hne => ?_)
        have hN := @After.cell ((w.alloc (.cells #[.int .i64 (v 0), .int .i64 (v 1), .int .i64 (v 2), .int .i64 (v 3), .int .i64 (v 4), .int .i64 (v 5), .int .i64 (v 6), .int .i64 (v 7)] 23)).alloc (.cells #[.int .i64 (6), .int .i64 k] 25))
        repeat (go_big_quiet_step (first | (go_at_call 37; exact After.calls (rnode1 (by decide) _)) | (go_at_call 37; exact After.calls (rnode1 hb _))))
        refine wpQuiet_nil (after_out ?_)
        intro w2 hb2
        go_wp2_with fail
        go_ret
        exact ⟨retB _ _ (by unfold hasV; simp; try omega), (((Below.refl _ _).alloc (Nat.le_refl _) _).alloc (by simp) _).trans (hb2.mono (by simp; omega))⟩
      · go_enter Try.func30, Try.ntmps30
        go_wp2_with fail
        refine wp_region_after (by kernel_rfl) (by kernel_rfl) (fun hne => ?_)
        have hN := @After.cell ((w.alloc (.cells #[.int .i64 (v 0), .int .i64 (v 1), .int .i64 (v 2), .int .i64 (v 3), .int .i64 (v 4), .int .i64 (v 5), .int .i64 (v 6), .int .i64 (v 7)] 23)).alloc (.cells #[.int .i64 (7), .int .i64 k] 25))
        repeat (go_big_quiet_step (first | (go_at_call 37; exact After.calls (rnode1 (by decide) _)) | (go_at_call 37; exact After.calls (rnode1 hb _))))
        refine wpQuiet_nil (after_out ?_)
        intro w2 hb2
        go_wp2_with fail
        go_ret
        exact ⟨retB _ _ (by unfold hasV; simp; try omega), (((Below.refl _ _).alloc (Nat.le_refl _) _).alloc (by simp) _).trans (hb2.mono (by simp; omega))⟩
    · have hk' : decide (1 ≤ k) = false := by simpa using hk
      go_enter Try.func30, Try.ntmps30
      go_wp2_with fail
      refine wp_region_after (by kernel_rfl) (by kernel_rfl) (fun hne => ?_)
      have hN := @After.cell ((w.alloc (.cells #[.int .i64 (v 0), .int .i64 (v 1), .int .i64 (v 2), .int .i64 (v 3), .int .i64 (v 4), .int .i64 (v 5), .int .i64 (v 6), .int .i64 (v 7)] 23)).alloc (.cells #[.int .i64 n, .int .i64 k] 25))
      repeat (go_big_quiet_step (first | (go_at_call 37; exact After.calls (rnode1 (by decide) _)) | (go_at_call 37; exact After.calls (rnode1 hb _))))
      refine wpQuiet_nil (after_out ?_)
      intro w2 hb2
      go_wp2_with fail
      go_ret
      exact ⟨retB _ _ (by unfold hasV; simp; try omega), (((Below.refl _ _).alloc (Nat.le_refl _) _).alloc (by simp) _).trans (hb2.mono (by simp; omega))⟩
  · have hb : nodeB n = false := by unfold nodeB; simp; omega
    go_enter Try.func30, Try.ntmps30
    go_wp2_with fail
    refine wp_region_after (by kernel_rfl) (by kernel_rfl) (fun hne => ?_)
    have hN := @After.cell ((w.alloc (.cells #[.int .i64 (v 0), .int .i64 (v 1), .int .i64 (v 2), .int .i64 (v 3), .int .i64 (v 4), .int .i64 (v 5), .int .i64 (v 6), .int .i64 (v 7)] 23)).alloc (.cells #[.int .i64 n, .int .i64 k] 25))
    repeat (go_big_quiet_step (first | (go_at_call 37; exact After.calls (rnode1 (by decide) _)) | (go_at_call 37; exact After.calls (rnode1 hb _))))
    refine wpQuiet_nil (after_out ?_)
    intro w2 hb2
    go_wp2_with fail
    go_ret
    exact ⟨retB _ _ (by unfold hasV; simp; try omega), (((Below.refl _ _).alloc (Nat.le_refl _) _).alloc (by simp) _).trans (hb2.mono (by simp; omega))⟩
def wiV (v : Nat → Int) (n k : Int) : Nat → Int := fun i => if n = (i : Int) then mx (v i) k else v i
theorem retV (b : Nat → Int) {x0 x1 x2 x3 x4 x5 x6 x7 : Int} (h0 : x0 = b 0) (h1 : x1 = b 1) (h2 : x2 = b 2) (h3 : x3 = b 3) (h4 : x4 = b 4) (h5 : x5 = b 5) (h6 : x6 = b 6) (h7 : x7 = b 7) :
    Ending.returned (.agg #[.int .i64 x0, .int .i64 x1, .int .i64 x2, .int .i64 x3, .int .i64 x4, .int .i64 x5, .int .i64 x6, .int .i64 x7]) = .returned (V b) := by rw [V, h0, h1, h2, h3, h4, h5, h6, h7]

set_option maxHeartbeats 4000000 in
theorem with0 (v : Nat → Int) (n k : Int) (w : World) : Calls Try.prog 14 #[V v, .agg #[.int .i64 n, .int .i64 k]] w fun e w' => e = .returned (V (wiV v n k)) ∧ Below w.heap.size w w' := by
  by_cases hn : 0 ≤ n ∧ n < 8
  · have e8 := eight hn.1 hn.2
    rcases e8 with rfl | rfl | rfl | rfl | rfl | rfl | rfl | rfl
    · go_enter Try.func14, Try.ntmps14
      go_wp2_with fail
      refine (node2 (c := true) (by decide) _).mono ?_
      rintro e w1 ⟨rfl, rfl⟩
      go_wp2_with fail
      try (go_region; go_wp2_with fail)
      go_returns
      refine ⟨?_, by go_grown⟩
      exact retV _ rfl rfl rfl rfl rfl rfl rfl rfl
    · go_enter Try.func14, Try.ntmps14
      go_wp2_with fail
      refine (node2 (c := true) (by decide) _).mono ?_
      rintro e w1 ⟨rfl, rfl⟩
      go_wp2_with fail
      try (go_region; go_wp2_with fail)
      go_returns
      refine ⟨?_, by go_grown⟩
      exact retV _ rfl rfl rfl rfl rfl rfl rfl rfl
    · go_enter Try.func14, Try.ntmps14
      go_wp2_with fail
      refine (node2 (c := true) (by decide) _).mono ?_
      rintro e w1 ⟨rfl, rfl⟩
      go_wp2_with fail
      try (go_region; go_wp2_with fail)
      go_returns
      refine ⟨?_, by go_grown⟩
      exact retV _ rfl rfl rfl rfl rfl rfl rfl rfl
    · go_enter Try.func14, Try.ntmps14
      go_wp2_with fail
      refine (node2 (c := true) (by decide) _).mono ?_
      rintro e w1 ⟨rfl, rfl⟩
      go_wp2_with fail
      try (go_region; go_wp2_with fail)
      go_returns
      refine ⟨?_, by go_grown⟩
      exact retV _ rfl rfl rfl rfl rfl rfl rfl rfl
    · go_enter Try.func14, Try.ntmps14
      go_wp2_with fail
      refine (node2 (c := true) (by decide) _).mono ?_
      rintro e w1 ⟨rfl, rfl⟩
      go_wp2_with fail
      try (go_region; go_wp2_with fail)
      go_returns
      refine ⟨?_, by go_grown⟩
      exact retV _ rfl rfl rfl rfl rfl rfl rfl rfl
    · go_enter Try.func14, Try.ntmps14
      go_wp2_with fail
      refine (node2 (c := true) (by decide) _).mono ?_
      rintro e w1 ⟨rfl, rfl⟩
      go_wp2_with fail
      try (go_region; go_wp2_with fail)
      go_returns
      refine ⟨?_, by go_grown⟩
      exact retV _ rfl rfl rfl rfl rfl rfl rfl rfl
    · go_enter Try.func14, Try.ntmps14
      go_wp2_with fail
      refine (node2 (c := true) (by decide) _).mono ?_
      rintro e w1 ⟨rfl, rfl⟩
      go_wp2_with fail
      try (go_region; go_wp2_with fail)
      go_returns
      refine ⟨?_, by go_grown⟩
      exact retV _ rfl rfl rfl rfl rfl rfl rfl rfl
    · go_enter Try.func14, Try.ntmps14
      go_wp2_with fail
      refine (node2 (c := true) (by decide) _).mono ?_
      rintro e w1 ⟨rfl, rfl⟩
      go_wp2_with fail
      try (go_region; go_wp2_with fail)
      go_returns
      refine ⟨?_, by go_grown⟩
      exact retV _ rfl rfl rfl rfl rfl rfl rfl rfl
  · have hb : nodeB n = false := by unfold nodeB; simp; omega
    go_enter Try.func14, Try.ntmps14
    go_wp2_with fail
    refine (node2 hb _).mono ?_
    rintro e w1 ⟨rfl, rfl⟩
    go_wp2_with fail
    try (go_region; go_wp2_with fail)
    go_returns
    refine ⟨?_, by go_grown⟩
    refine retV _ ?_ ?_ ?_ ?_ ?_ ?_ ?_ ?_ <;> (unfold wiV; rw [if_neg (by omega)])
set_option maxHeartbeats 4000000 in
theorem rwith0 (v : Nat → Int) (n k : Int) (w : World) : Calls Try.prog 31 #[V v, .agg #[.int .i64 n, .int .i64 k]] w fun e w' => e = .returned (V (wiV v n k)) ∧ Below w.heap.size w w' := by
  by_cases hn : 0 ≤ n ∧ n < 8
  · have e8 := eight hn.1 hn.2
    rcases e8 with rfl | rfl | rfl | rfl | rfl | rfl | rfl | rfl
    · go_enter Try.func31, Try.ntmps31
      go_wp2_with fail
      refine (rnode2 (c := true) (by decide) _).mono ?_
      rintro e w1 ⟨rfl, rfl⟩
      go_wp2_with fail
      try (go_region; go_wp2_with fail)
      go_returns
      refine ⟨?_, by go_grown⟩
      exact retV _ rfl rfl rfl rfl rfl rfl rfl rfl
    · go_enter Try.func31, Try.ntmps31
      go_wp2_with fail
      refine (rnode2 (c := true) (by decide) _).mono ?_
      rintro e w1 ⟨rfl, rfl⟩
      go_wp2_with fail
      try (go_region; go_wp2_with fail)
      go_returns
      refine ⟨?_, by go_grown⟩
      exact retV _ rfl rfl rfl rfl rfl rfl rfl rfl
    · go_enter Try.func31, Try.ntmps31
      go_wp2_with fail
      refine (rnode2 (c := true) (by decide) _).mono ?_
      rintro e w1 ⟨rfl, rfl⟩
      go_wp2_with fail
      try (go_region; go_wp2_with fail)
      go_returns
      refine ⟨?_, by go_grown⟩
      exact retV _ rfl rfl rfl rfl rfl rfl rfl rfl
    · go_enter Try.func31, Try.ntmps31
      go_wp2_with fail
      refine (rnode2 (c := true) (by decide) _).mono ?_
      rintro e w1 ⟨rfl, rfl⟩
      go_wp2_with fail
      try (go_region; go_wp2_with fail)
      go_returns
      refine ⟨?_, by go_grown⟩
      exact retV _ rfl rfl rfl rfl rfl rfl rfl rfl
    · go_enter Try.func31, Try.ntmps31
      go_wp2_with fail
      refine (rnode2 (c := true) (by decide) _).mono ?_
      rintro e w1 ⟨rfl, rfl⟩
      go_wp2_with fail
      try (go_region; go_wp2_with fail)
      go_returns
      refine ⟨?_, by go_grown⟩
      exact retV _ rfl rfl rfl rfl rfl rfl rfl rfl
    · go_enter Try.func31, Try.ntmps31
      go_wp2_with fail
      refine (rnode2 (c := true) (by decide) _).mono ?_
      rintro e w1 ⟨rfl, rfl⟩
      go_wp2_with fail
      try (go_region; go_wp2_with fail)
      go_returns
      refine ⟨?_, by go_grown⟩
      exact retV _ rfl rfl rfl rfl rfl rfl rfl rfl
    · go_enter Try.func31, Try.ntmps31
      go_wp2_with fail
      refine (rnode2 (c := true) (by decide) _).mono ?_
      rintro e w1 ⟨rfl, rfl⟩
      go_wp2_with fail
      try (go_region; go_wp2_with fail)
      go_returns
      refine ⟨?_, by go_grown⟩
      exact retV _ rfl rfl rfl rfl rfl rfl rfl rfl
    · go_enter Try.func31, Try.ntmps31
      go_wp2_with fail
      refine (rnode2 (c := true) (by decide) _).mono ?_
      rintro e w1 ⟨rfl, rfl⟩
      go_wp2_with fail
      try (go_region; go_wp2_with fail)
      go_returns
      refine ⟨?_, by go_grown⟩
      exact retV _ rfl rfl rfl rfl rfl rfl rfl rfl
  · have hb : nodeB n = false := by unfold nodeB; simp; omega
    go_enter Try.func31, Try.ntmps31
    go_wp2_with fail
    refine (rnode2 hb _).mono ?_
    rintro e w1 ⟨rfl, rfl⟩
    go_wp2_with fail
    try (go_region; go_wp2_with fail)
    go_returns
    refine ⟨?_, by go_grown⟩
    refine retV _ ?_ ?_ ?_ ?_ ?_ ?_ ?_ ?_ <;> (unfold wiV; rw [if_neg (by omega)])
end Go.Proofs.Ytngoopfdfihkpaa.Clk
