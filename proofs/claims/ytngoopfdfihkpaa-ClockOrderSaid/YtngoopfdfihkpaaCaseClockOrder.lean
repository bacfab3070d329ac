/- ClockOrder: the walk of the law, a way each. Conditions: those typed. -/
import Derived.Test.YtngoopfdfihkpaaClockD
import Derived.Test.YtngoopfdfihkpaaClockE
import Derived.Test.YtngoopfdfihkpaaReads
namespace Go.Proofs.Ytngoopfdfihkpaa.WClockOrder
open Go.RowKit Kit Clk
open PClockForms (cmpE compare1 cmpE_val)
set_option linter.unusedVariables false

set_option maxHeartbeats 2000000 in
theorem eq_pos (a0 a1 c0 c1 y : Int) (w : World) (hx : Hid (cmpE a0 a1 a0 a1 = 0)) (hx' : Hid (cmpE a0 a1 a0 a1 = 0)) (hy : Hid (cmpE a0 a1 c0 c1 = y)) (hyp : decide (0 < y) = true) :
    Calls Try.prog 6 #[.agg #[.int .i64 a0, .int .i64 a1], .agg #[.int .i64 a0, .int .i64 a1], .agg #[.int .i64 c0, .int .i64 c1]] w fun e w' => e = .returned (.bool true) ∧ Below w.heap.size w w' := by
  go_enter Try.func6, Try.ntmps6
  go_upto_region 1 with fail
  refine wp_draws _ (Below.refl _ _) (by kernel_rfl) (by kernel_rfl) (fun hne hN => ?_)
  repeat (go_big_quiet_step (first | (go_at_call 20; first | (with_reducible exact After.calls (compare1 hx.out _)) | (with_reducible exact After.calls (compare1 hx'.out _)) | (with_reducible exact After.calls (compare1 hy.out _)))))
  refine wpQuiet_nil (after_cells ?_)
  intro w2 hb2 hc2
  go_upto_region 2 with fail
  first | refine wp_draws _ hb2 (by kernel_rfl) (by kernel_rfl) (fun hne hN => ?_) | refine wp_text _ hb2 (fun hne hN => ?_)
  repeat (go_big_quiet_step (first | (go_at_call 20; first | (with_reducible exact After.calls (compare1 hx.out _)) | (with_reducible exact After.calls (compare1 hx'.out _)) | (with_reducible exact After.calls (compare1 hy.out _))) | (go_at_call 15; with_reducible exact After.calls (awake0 _))))
  refine wpQuiet_nil (after_cells ?_)
  intro w4 hb4 hc4
  go_wp2_with fail
  go_ret
  exact ⟨rfl, ((((Below.refl _ _).alloc (Nat.le_refl _) _).alloc (by simp) _).alloc (by simp; omega) _).trans (hb4.mono (by simp; omega))⟩

set_option maxHeartbeats 2000000 in
theorem eq_neg (a0 a1 c0 c1 y : Int) (w : World) (hx : Hid (cmpE a0 a1 a0 a1 = 0)) (hx' : Hid (cmpE a0 a1 a0 a1 = 0)) (hy : Hid (cmpE a0 a1 c0 c1 = y)) (hyp : decide (0 < y) = false) (hz1 : decide (y ≤ 0) = true) :
    Calls Try.prog 6 #[.agg #[.int .i64 a0, .int .i64 a1], .agg #[.int .i64 a0, .int .i64 a1], .agg #[.int .i64 c0, .int .i64 c1]] w fun e w' => e = .returned (.bool true) ∧ Below w.heap.size w w' := by
  go_enter Try.func6, Try.ntmps6
  go_upto_region 1 with fail
  refine wp_draws _ (Below.refl _ _) (by kernel_rfl) (by kernel_rfl) (fun hne hN => ?_)
  repeat (go_big_quiet_step (first | (go_at_call 20; first | (with_reducible exact After.calls (compare1 hx.out _)) | (with_reducible exact After.calls (compare1 hx'.out _)) | (with_reducible exact After.calls (compare1 hy.out _)))))
  refine wpQuiet_nil (after_cells ?_)
  intro w2 hb2 hc2
  go_upto_region 2 with fail
  first | refine wp_draws _ hb2 (by kernel_rfl) (by kernel_rfl) (fun hne hN => ?_) | refine wp_text _ hb2 (fun hne hN => ?_)
  repeat (go_big_quiet_step (first | (go_at_call 20; first | (with_reducible exact After.calls (compare1 hx.out _)) | (with_reducible exact After.calls (compare1 hx'.out _)) | (with_reducible exact After.calls (compare1 hy.out _))) | (go_at_call 15; with_reducible exact After.calls (awake0 _))))
  refine wpQuiet_nil (after_cells ?_)
  intro w4 hb4 hc4
  go_wp2_with fail
  go_ret
  exact ⟨rfl, ((((Below.refl _ _).alloc (Nat.le_refl _) _).alloc (by simp) _).alloc (by simp; omega) _).trans (hb4.mono (by simp; omega))⟩

set_option maxHeartbeats 2000000 in
theorem gt_f (a0 a1 b0 b1 c0 c1 y z : Int) (w : World) (hx : Hid (cmpE a0 a1 b0 b1 = 1)) (hx' : Hid (cmpE b0 b1 a0 a1 = -1)) (hy : Hid (cmpE b0 b1 c0 c1 = y)) (hz : Hid (cmpE a0 a1 c0 c1 = z)) (t0 : (a0 == b0) = false) :
    Calls Try.prog 6 #[.agg #[.int .i64 a0, .int .i64 a1], .agg #[.int .i64 b0, .int .i64 b1], .agg #[.int .i64 c0, .int .i64 c1]] w fun e w' => e = .returned (.bool true) ∧ Below w.heap.size w w' := by
  go_enter Try.func6, Try.ntmps6
  go_upto_region 1 with fail
  refine wp_draws _ (Below.refl _ _) (by kernel_rfl) (by kernel_rfl) (fun hne hN => ?_)
  repeat (go_big_quiet_step (first | (go_at_call 20; first | (with_reducible exact After.calls (compare1 hx.out _)) | (with_reducible exact After.calls (compare1 hx'.out _)) | (with_reducible exact After.calls (compare1 hy.out _)) | (with_reducible exact After.calls (compare1 hz.out _)))))
  refine wpQuiet_nil (after_cells ?_)
  intro w2 hb2 hc2
  go_upto_region 2 with fail
  first | refine wp_draws _ hb2 (by kernel_rfl) (by kernel_rfl) (fun hne hN => ?_) | refine wp_text _ hb2 (fun hne hN => ?_)
  repeat (go_big_quiet_step (first | (go_at_call 20; first | (with_reducible exact After.calls (compare1 hx.out _)) | (with_reducible exact After.calls (compare1 hx'.out _)) | (with_reducible exact After.calls (compare1 hy.out _)) | (with_reducible exact After.calls (compare1 hz.out _))) | (go_at_call 15; with_reducible exact After.calls (awake0 _))))
  refine wpQuiet_nil (after_cells ?_)
  intro w4 hb4 hc4
  go_wp2_with fail
  go_ret
  exact ⟨rfl, ((((Below.refl _ _).alloc (Nat.le_refl _) _).alloc (by simp) _).alloc (by simp; omega) _).trans (hb4.mono (by simp; omega))⟩

set_option maxHeartbeats 2000000 in
theorem lt_pos_f (a0 a1 b0 b1 c0 c1 y z : Int) (w : World) (hx : Hid (cmpE a0 a1 b0 b1 = -1)) (hx' : Hid (cmpE b0 b1 a0 a1 = 1)) (hy : Hid (cmpE b0 b1 c0 c1 = y)) (hz : Hid (cmpE a0 a1 c0 c1 = z)) (t0 : (a0 == b0) = false) (hyp : decide (0 < y) = true) :
    Calls Try.prog 6 #[.agg #[.int .i64 a0, .int .i64 a1], .agg #[.int .i64 b0, .int .i64 b1], .agg #[.int .i64 c0, .int .i64 c1]] w fun e w' => e = .returned (.bool true) ∧ Below w.heap.size w w' := by
  go_enter Try.func6, Try.ntmps6
  go_upto_region 1 with fail
  refine wp_draws _ (Below.refl _ _) (by kernel_rfl) (by kernel_rfl) (fun hne hN => ?_)
  repeat (go_big_quiet_step (first | (go_at_call 20; first | (with_reducible exact After.calls (compare1 hx.out _)) | (with_reducible exact After.calls (compare1 hx'.out _)) | (with_reducible exact After.calls (compare1 hy.out _)) | (with_reducible exact After.calls (compare1 hz.out _)))))
  refine wpQuiet_nil (after_cells ?_)
  intro w2 hb2 hc2
  go_upto_region 2 with fail
  first | refine wp_draws _ hb2 (by kernel_rfl) (by kernel_rfl) (fun hne hN => ?_) | refine wp_text _ hb2 (fun hne hN => ?_)
  repeat (go_big_quiet_step (first | (go_at_call 20; first | (with_reducible exact After.calls (compare1 hx.out _)) | (with_reducible exact After.calls (compare1 hx'.out _)) | (with_reducible exact After.calls (compare1 hy.out _)) | (with_reducible exact After.calls (compare1 hz.out _))) | (go_at_call 15; with_reducible exact After.calls (awake0 _))))
  refine wpQuiet_nil (after_cells ?_)
  intro w4 hb4 hc4
  go_wp2_with fail
  go_ret
  exact ⟨rfl, ((((Below.refl _ _).alloc (Nat.le_refl _) _).alloc (by simp) _).alloc (by simp; omega) _).trans (hb4.mono (by simp; omega))⟩

set_option maxHeartbeats 2000000 in
theorem lt_neg_f (a0 a1 b0 b1 c0 c1 y z : Int) (w : World) (hx : Hid (cmpE a0 a1 b0 b1 = -1)) (hx' : Hid (cmpE b0 b1 a0 a1 = 1)) (hy : Hid (cmpE b0 b1 c0 c1 = y)) (hz : Hid (cmpE a0 a1 c0 c1 = z)) (t0 : (a0 == b0) = false) (hyp : decide (0 < y) = false) (hz1 : decide (z ≤ 0) = true) (hz2 : decide (z < 0) = true) :
    Calls Try.prog 6 #[.agg #[.int .i64 a0, .int .i64 a1], .agg #[.int .i64 b0, .int .i64 b1], .agg #[.int .i64 c0, .int .i64 c1]] w fun e w' => e = .returned (.bool true) ∧ Below w.heap.size w w' := by
  go_enter Try.func6, Try.ntmps6
  go_upto_region 1 with fail
  refine wp_draws _ (Below.refl _ _) (by kernel_rfl) (by kernel_rfl) (fun hne hN => ?_)
  repeat (go_big_quiet_step (first | (go_at_call 20; first | (with_reducible exact After.calls (compare1 hx.out _)) | (with_reducible exact After.calls (compare1 hx'.out _)) | (with_reducible exact After.calls (compare1 hy.out _)) | (with_reducible exact After.calls (compare1 hz.out _)))))
  refine wpQuiet_nil (after_cells ?_)
  intro w2 hb2 hc2
  go_upto_region 2 with fail
  first | refine wp_draws _ hb2 (by kernel_rfl) (by kernel_rfl) (fun hne hN => ?_) | refine wp_text _ hb2 (fun hne hN => ?_)
  repeat (go_big_quiet_step (first | (go_at_call 20; first | (with_reducible exact After.calls (compare1 hx.out _)) | (with_reducible exact After.calls (compare1 hx'.out _)) | (with_reducible exact After.calls (compare1 hy.out _)) | (with_reducible exact After.calls (compare1 hz.out _))) | (go_at_call 15; with_reducible exact After.calls (awake0 _))))
  refine wpQuiet_nil (after_cells ?_)
  intro w4 hb4 hc4
  go_wp2_with fail
  go_ret
  exact ⟨rfl, ((((Below.refl _ _).alloc (Nat.le_refl _) _).alloc (by simp) _).alloc (by simp; omega) _).trans (hb4.mono (by simp; omega))⟩

set_option maxHeartbeats 2000000 in
theorem gt_s (a0 a1 b1 c0 c1 y z : Int) (w : World) (hx : Hid (cmpE a0 a1 a0 b1 = 1)) (hx' : Hid (cmpE a0 b1 a0 a1 = -1)) (hy : Hid (cmpE a0 b1 c0 c1 = y)) (hz : Hid (cmpE a0 a1 c0 c1 = z)) (t0 : (a1 == b1) = false) :
    Calls Try.prog 6 #[.agg #[.int .i64 a0, .int .i64 a1], .agg #[.int .i64 a0, .int .i64 b1], .agg #[.int .i64 c0, .int .i64 c1]] w fun e w' => e = .returned (.bool true) ∧ Below w.heap.size w w' := by
  go_enter Try.func6, Try.ntmps6
  go_upto_region 1 with fail
  refine wp_draws _ (Below.refl _ _) (by kernel_rfl) (by kernel_rfl) (fun hne hN => ?_)
  repeat (go_big_quiet_step (first | (go_at_call 20; first | (with_reducible exact After.calls (compare1 hx.out _)) | (with_reducible exact After.calls (compare1 hx'.out _)) | (with_reducible exact After.calls (compare1 hy.out _)) | (with_reducible exact After.calls (compare1 hz.out _)))))
  refine wpQuiet_nil (after_cells ?_)
  intro w2 hb2 hc2
  go_upto_region 2 with fail
  first | refine wp_draws _ hb2 (by kernel_rfl) (by kernel_rfl) (fun hne hN => ?_) | refine wp_text _ hb2 (fun hne hN => ?_)
  repeat (go_big_quiet_step (first | (go_at_call 20; first | (with_reducible exact After.calls (compare1 hx.out _)) | (with_reducible exact After.calls (compare1 hx'.out _)) | (with_reducible exact After.calls (compare1 hy.out _)) | (with_reducible exact After.calls (compare1 hz.out _))) | (go_at_call 15; with_reducible exact After.calls (awake0 _))))
  refine wpQuiet_nil (after_cells ?_)
  intro w4 hb4 hc4
  go_wp2_with fail
  go_ret
  exact ⟨rfl, ((((Below.refl _ _).alloc (Nat.le_refl _) _).alloc (by simp) _).alloc (by simp; omega) _).trans (hb4.mono (by simp; omega))⟩

set_option maxHeartbeats 2000000 in
theorem lt_pos_s (a0 a1 b1 c0 c1 y z : Int) (w : World) (hx : Hid (cmpE a0 a1 a0 b1 = -1)) (hx' : Hid (cmpE a0 b1 a0 a1 = 1)) (hy : Hid (cmpE a0 b1 c0 c1 = y)) (hz : Hid (cmpE a0 a1 c0 c1 = z)) (t0 : (a1 == b1) = false) (hyp : decide (0 < y) = true) :
    Calls Try.prog 6 #[.agg #[.int .i64 a0, .int .i64 a1], .agg #[.int .i64 a0, .int .i64 b1], .agg #[.int .i64 c0, .int .i64 c1]] w fun e w' => e = .returned (.bool true) ∧ Below w.heap.size w w' := by
  go_enter Try.func6, Try.ntmps6
  go_upto_region 1 with fail
  refine wp_draws _ (Below.refl _ _) (by kernel_rfl) (by kernel_rfl) (fun hne hN => ?_)
  repeat (go_big_quiet_step (first | (go_at_call 20; first | (with_reducible exact After.calls (compare1 hx.out _)) | (with_reducible exact After.calls (compare1 hx'.out _)) | (with_reducible exact After.calls (compare1 hy.out _)) | (with_reducible exact After.calls (compare1 hz.out _)))))
  refine wpQuiet_nil (after_cells ?_)
  intro w2 hb2 hc2
  go_upto_region 2 with fail
  first | refine wp_draws _ hb2 (by kernel_rfl) (by kernel_rfl) (fun hne hN => ?_) | refine wp_text _ hb2 (fun hne hN => ?_)
  repeat (go_big_quiet_step (first | (go_at_call 20; first | (with_reducible exact After.calls (compare1 hx.out _)) | (with_reducible exact After.calls (compare1 hx'.out _)) | (with_reducible exact After.calls (compare1 hy.out _)) | (with_reducible exact After.calls (compare1 hz.out _))) | (go_at_call 15; with_reducible exact After.calls (awake0 _))))
  refine wpQuiet_nil (after_cells ?_)
  intro w4 hb4 hc4
  go_wp2_with fail
  go_ret
  exact ⟨rfl, ((((Below.refl _ _).alloc (Nat.le_refl _) _).alloc (by simp) _).alloc (by simp; omega) _).trans (hb4.mono (by simp; omega))⟩

set_option maxHeartbeats 2000000 in
theorem lt_neg_s (a0 a1 b1 c0 c1 y z : Int) (w : World) (hx : Hid (cmpE a0 a1 a0 b1 = -1)) (hx' : Hid (cmpE a0 b1 a0 a1 = 1)) (hy : Hid (cmpE a0 b1 c0 c1 = y)) (hz : Hid (cmpE a0 a1 c0 c1 = z)) (t0 : (a1 == b1) = false) (hyp : decide (0 < y) = false) (hz1 : decide (z ≤ 0) = true) (hz2 : decide (z < 0) = true) :
    Calls Try.prog 6 #[.agg #[.int .i64 a0, .int .i64 a1], .agg #[.int .i64 a0, .int .i64 b1], .agg #[.int .i64 c0, .int .i64 c1]] w fun e w' => e = .returned (.bool true) ∧ Below w.heap.size w w' := by
  go_enter Try.func6, Try.ntmps6
  go_upto_region 1 with fail
  refine wp_draws _ (Below.refl _ _) (by kernel_rfl) (by kernel_rfl) (fun hne hN => ?_)
  repeat (go_big_quiet_step (first | (go_at_call 20; first | (with_reducible exact After.calls (compare1 hx.out _)) | (with_reducible exact After.calls (compare1 hx'.out _)) | (with_reducible exact After.calls (compare1 hy.out _)) | (with_reducible exact After.calls (compare1 hz.out _)))))
  refine wpQuiet_nil (after_cells ?_)
  intro w2 hb2 hc2
  go_upto_region 2 with fail
  first | refine wp_draws _ hb2 (by kernel_rfl) (by kernel_rfl) (fun hne hN => ?_) | refine wp_text _ hb2 (fun hne hN => ?_)
  repeat (go_big_quiet_step (first | (go_at_call 20; first | (with_reducible exact After.calls (compare1 hx.out _)) | (with_reducible exact After.calls (compare1 hx'.out _)) | (with_reducible exact After.calls (compare1 hy.out _)) | (with_reducible exact After.calls (compare1 hz.out _))) | (go_at_call 15; with_reducible exact After.calls (awake0 _))))
  refine wpQuiet_nil (after_cells ?_)
  intro w4 hb4 hc4
  go_wp2_with fail
  go_ret
  exact ⟨rfl, ((((Below.refl _ _).alloc (Nat.le_refl _) _).alloc (by simp) _).alloc (by simp; omega) _).trans (hb4.mono (by simp; omega))⟩

end Go.Proofs.Ytngoopfdfihkpaa.WClockOrder
