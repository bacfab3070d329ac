/- ClockDots: the walk of the law: each of its tests says yes. No condition. -/
import Derived.Test.YtngoopfdfihkpaaClockD
import Derived.Test.YtngoopfdfihkpaaReads
namespace Go.Proofs.Ytngoopfdfihkpaa.WClockDots
open Go.RowKit Kit Clk
set_option linter.unusedVariables false
attribute [local go_sem high] run_equalIn_8
attribute [local go_sem] eq8_self

theorem with_m (v : Nat → Int) (w : World) : Calls Try.prog 14 #[V v, .agg #[.int .i64 (-1), .int .i64 5]] w fun e w' => e = .returned (V v) ∧ Below w.heap.size w w' :=
  with1 (fun i _ => by unfold wiV; rw [if_neg (by omega)]) w

set_option maxHeartbeats 1000000 in
theorem bad0 (v : Nat → Int) (n k m j : Int) (w : World) (hm : Hid (mayV v = false)) :
    Calls Try.prog 4 #[V v, .agg #[.int .i64 n, .int .i64 k], .agg #[.int .i64 m, .int .i64 j]] w fun e w' => e = .returned (.bool true) ∧ Below w.heap.size w w' := by
  go_enter Try.func4, Try.ntmps4
  go_upto_region 1 with fail
  refine wp_text _ (Below.refl _ _) (fun hne hN => ?_)
  repeat (go_big_quiet_step (first | (go_at_call 16; with_reducible exact After.calls (may1 hm.out _))))
  refine wpQuiet_nil (after_cells ?_)
  intro w2 hb2 hc2
  go_upto_region 2 with fail
  refine wp_draws _ hb2 (by kernel_rfl) (by kernel_rfl) (fun hne hN => ?_)
  repeat (go_big_quiet_step (first | (go_at_call 16; with_reducible exact After.calls (may1 hm.out _)) | (go_at_call 15; with_reducible exact After.calls (awake0 _)) | (go_at_call 14; with_reducible exact After.calls (with_m v _))))
  refine wpQuiet_nil (after_cells ?_)
  intro w3 hb3 hc3
  go_wp2_with fail
  go_ret
  exact ⟨rfl, ((((Below.refl _ _).alloc (Nat.le_refl _) _).alloc (by simp) _).alloc (by simp; omega) _).trans (hb3.mono (by simp; omega))⟩

set_option maxHeartbeats 1000000 in
theorem bad1 (v : Nat → Int) (n k m j : Int) (w : World) (hm : Hid (mayV v = true)) (h1 : decide (n < 0) = true) :
    Calls Try.prog 4 #[V v, .agg #[.int .i64 n, .int .i64 k], .agg #[.int .i64 m, .int .i64 j]] w fun e w' => e = .returned (.bool true) ∧ Below w.heap.size w w' := by
  go_enter Try.func4, Try.ntmps4
  go_upto_region 1 with fail
  refine wp_text _ (Below.refl _ _) (fun hne hN => ?_)
  repeat (go_big_quiet_step (first | (go_at_call 16; with_reducible exact After.calls (may1 hm.out _))))
  refine wpQuiet_nil (after_cells ?_)
  intro w2 hb2 hc2
  go_upto_region 2 with fail
  refine wp_draws _ hb2 (by kernel_rfl) (by kernel_rfl) (fun hne hN => ?_)
  repeat (go_big_quiet_step (first | (go_at_call 16; with_reducible exact After.calls (may1 hm.out _)) | (go_at_call 15; with_reducible exact After.calls (awake0 _)) | (go_at_call 14; with_reducible exact After.calls (with_m v _))))
  refine wpQuiet_nil (after_cells ?_)
  intro w3 hb3 hc3
  go_wp2_with fail
  go_ret
  exact ⟨rfl, ((((Below.refl _ _).alloc (Nat.le_refl _) _).alloc (by simp) _).alloc (by simp; omega) _).trans (hb3.mono (by simp; omega))⟩

set_option maxHeartbeats 1000000 in
theorem bad2 (v : Nat → Int) (n k m j : Int) (w : World) (hm : Hid (mayV v = true)) (h1 : decide (n < 0) = false) (h2 : decide (8 ≤ n) = true) :
    Calls Try.prog 4 #[V v, .agg #[.int .i64 n, .int .i64 k], .agg #[.int .i64 m, .int .i64 j]] w fun e w' => e = .returned (.bool true) ∧ Below w.heap.size w w' := by
  go_enter Try.func4, Try.ntmps4
  go_upto_region 1 with fail
  refine wp_text _ (Below.refl _ _) (fun hne hN => ?_)
  repeat (go_big_quiet_step (first | (go_at_call 16; with_reducible exact After.calls (may1 hm.out _))))
  refine wpQuiet_nil (after_cells ?_)
  intro w2 hb2 hc2
  go_upto_region 2 with fail
  refine wp_draws _ hb2 (by kernel_rfl) (by kernel_rfl) (fun hne hN => ?_)
  repeat (go_big_quiet_step (first | (go_at_call 16; with_reducible exact After.calls (may1 hm.out _)) | (go_at_call 15; with_reducible exact After.calls (awake0 _)) | (go_at_call 14; with_reducible exact After.calls (with_m v _))))
  refine wpQuiet_nil (after_cells ?_)
  intro w3 hb3 hc3
  go_wp2_with fail
  go_ret
  exact ⟨rfl, ((((Below.refl _ _).alloc (Nat.le_refl _) _).alloc (by simp) _).alloc (by simp; omega) _).trans (hb3.mono (by simp; omega))⟩

set_option maxHeartbeats 1000000 in
theorem bad3 (v : Nat → Int) (n k m j : Int) (w : World) (hm : Hid (mayV v = true)) (h1 : decide (n < 0) = false) (h2 : decide (8 ≤ n) = false) (h3 : decide (k < 1) = true) :
    Calls Try.prog 4 #[V v, .agg #[.int .i64 n, .int .i64 k], .agg #[.int .i64 m, .int .i64 j]] w fun e w' => e = .returned (.bool true) ∧ Below w.heap.size w w' := by
  go_enter Try.func4, Try.ntmps4
  go_upto_region 1 with fail
  refine wp_text _ (Below.refl _ _) (fun hne hN => ?_)
  repeat (go_big_quiet_step (first | (go_at_call 16; with_reducible exact After.calls (may1 hm.out _))))
  refine wpQuiet_nil (after_cells ?_)
  intro w2 hb2 hc2
  go_upto_region 2 with fail
  refine wp_draws _ hb2 (by kernel_rfl) (by kernel_rfl) (fun hne hN => ?_)
  repeat (go_big_quiet_step (first | (go_at_call 16; with_reducible exact After.calls (may1 hm.out _)) | (go_at_call 15; with_reducible exact After.calls (awake0 _)) | (go_at_call 14; with_reducible exact After.calls (with_m v _))))
  refine wpQuiet_nil (after_cells ?_)
  intro w3 hb3 hc3
  go_wp2_with fail
  go_ret
  exact ⟨rfl, ((((Below.refl _ _).alloc (Nat.le_refl _) _).alloc (by simp) _).alloc (by simp; omega) _).trans (hb3.mono (by simp; omega))⟩

set_option maxHeartbeats 1000000 in
theorem bad4 (v : Nat → Int) (n k m j : Int) (w : World) (hm : Hid (mayV v = true)) (h1 : decide (n < 0) = false) (h2 : decide (8 ≤ n) = false) (h3 : decide (k < 1) = false) (h4 : decide (1000000 < k) = true) :
    Calls Try.prog 4 #[V v, .agg #[.int .i64 n, .int .i64 k], .agg #[.int .i64 m, .int .i64 j]] w fun e w' => e = .returned (.bool true) ∧ Below w.heap.size w w' := by
  go_enter Try.func4, Try.ntmps4
  go_upto_region 1 with fail
  refine wp_text _ (Below.refl _ _) (fun hne hN => ?_)
  repeat (go_big_quiet_step (first | (go_at_call 16; with_reducible exact After.calls (may1 hm.out _))))
  refine wpQuiet_nil (after_cells ?_)
  intro w2 hb2 hc2
  go_upto_region 2 with fail
  refine wp_draws _ hb2 (by kernel_rfl) (by kernel_rfl) (fun hne hN => ?_)
  repeat (go_big_quiet_step (first | (go_at_call 16; with_reducible exact After.calls (may1 hm.out _)) | (go_at_call 15; with_reducible exact After.calls (awake0 _)) | (go_at_call 14; with_reducible exact After.calls (with_m v _))))
  refine wpQuiet_nil (after_cells ?_)
  intro w3 hb3 hc3
  go_wp2_with fail
  go_ret
  exact ⟨rfl, ((((Below.refl _ _).alloc (Nat.le_refl _) _).alloc (by simp) _).alloc (by simp; omega) _).trans (hb3.mono (by simp; omega))⟩

set_option maxHeartbeats 2000000 in
theorem goodT (v r : Nat → Int) (n k m j : Int) (δ : Bool) (w : World) (hm : Hid (mayV v = true)) (hr : Hid (mayV r = true)) (h1 : decide (n < 0) = false) (h2 : decide (8 ≤ n) = false) (h3 : decide (k < 1) = false) (h4 : decide (1000000 < k) = false)
    (hw1 : Hid (∀ i, i < 8 → wiV v n k i = r i)) (hw2 : Hid (∀ i, i < 8 → wiV r n k i = r i)) (h5 : Hid (hasV r m j = true)) (h6 : Hid (hasV v m j = true)) (h7 : Hid (hasV v n k = δ))
    (h8 : eq8 (r 0) (r 1) (r 2) (r 3) (r 4) (r 5) (r 6) (r 7) (v 0) (v 1) (v 2) (v 3) (v 4) (v 5) (v 6) (v 7) = δ)  :
    Calls Try.prog 4 #[V v, .agg #[.int .i64 n, .int .i64 k], .agg #[.int .i64 m, .int .i64 j]] w fun e w' => e = .returned (.bool true) ∧ Below w.heap.size w w' := by
  go_enter Try.func4, Try.ntmps4
  go_upto_region 1 with fail
  refine wp_text _ (Below.refl _ _) (fun hne hN => ?_)
  repeat (go_big_quiet_step (first | (go_at_call 16; with_reducible exact After.calls (may1 hm.out _))))
  refine wpQuiet_nil (after_cells ?_)
  intro w2 hb2 hc2
  go_wp2_with fail
  refine Calls.cells (with1 (v := v) (r := r) hw1.out _) ?_
  intro w3 hb3 hc3
  have hz : Below _ _ _ := hb2.trans (hb3.mono hb2.size)
  clear hb3 hc3
  obtain ⟨hc3, _⟩ := bcell hz
  have q3 : Below w.heap.size w w3 := ((((Below.refl _ _).alloc (Nat.le_refl _) _).alloc (by simp) _).alloc (by simp; omega) _).trans (hz.mono (by simp; omega))
  have z0 : w.heap.size < w3.heap.size := by have := hz.size; simp at this; omega
  have z1 : w.heap.size + 1 < w3.heap.size := by have := hz.size; simp at this; omega
  have z2 : w.heap.size + 2 < w3.heap.size := by have := hz.size; simp at this; omega
  go_upto_region 4 with fail
  refine wp_draws _ (Below.refl _ _) (by kernel_rfl) (by kernel_rfl) (fun hne hN => ?_)
  repeat (go_big_quiet_step (first
    | (go_at_call 16; with_reducible exact After.calls (may1 hr.out _))
    | (go_at_call 15; with_reducible exact After.calls (awake0 _))
    | (go_at_call 14; first | (with_reducible exact After.calls (with1 (v := r) (r := r) hw2.out _)) | (with_reducible exact After.calls (with1 (v := v) (r := r) hw1.out _)))
    | (go_at_call 13; first | (with_reducible exact After.calls (has1 h5.out _)) | (with_reducible exact After.calls (has1 h6.out _)) | (with_reducible exact After.calls (has1 h7.out _)))))
  refine wpQuiet_nil (after_cells ?_)
  intro w4 hb4 hc4
  go_wp2_with fail
  go_ret
  exact ⟨rfl, (q3.alloc q3.size _).trans (hb4.mono (by have := q3.size; simp; omega))⟩

set_option maxHeartbeats 2000000 in
theorem goodN (v r : Nat → Int) (n k m j : Int) (δ : Bool) (w : World) (hm : Hid (mayV v = true)) (hr : Hid (mayV r = true)) (h1 : decide (n < 0) = false) (h2 : decide (8 ≤ n) = false) (h3 : decide (k < 1) = false) (h4 : decide (1000000 < k) = false)
    (hw1 : Hid (∀ i, i < 8 → wiV v n k i = r i)) (hw2 : Hid (∀ i, i < 8 → wiV r n k i = r i)) (h5 : Hid (hasV r m j = false)) (h6 : Hid (hasV v m j = false)) (h7 : Hid (hasV v n k = δ))
    (h8 : eq8 (r 0) (r 1) (r 2) (r 3) (r 4) (r 5) (r 6) (r 7) (v 0) (v 1) (v 2) (v 3) (v 4) (v 5) (v 6) (v 7) = δ) (h9 : (m == n) = false) :
    Calls Try.prog 4 #[V v, .agg #[.int .i64 n, .int .i64 k], .agg #[.int .i64 m, .int .i64 j]] w fun e w' => e = .returned (.bool true) ∧ Below w.heap.size w w' := by
  go_enter Try.func4, Try.ntmps4
  go_upto_region 1 with fail
  refine wp_text _ (Below.refl _ _) (fun hne hN => ?_)
  repeat (go_big_quiet_step (first | (go_at_call 16; with_reducible exact After.calls (may1 hm.out _))))
  refine wpQuiet_nil (after_cells ?_)
  intro w2 hb2 hc2
  go_wp2_with fail
  refine Calls.cells (with1 (v := v) (r := r) hw1.out _) ?_
  intro w3 hb3 hc3
  have hz : Below _ _ _ := hb2.trans (hb3.mono hb2.size)
  clear hb3 hc3
  obtain ⟨hc3, _⟩ := bcell hz
  have q3 : Below w.heap.size w w3 := ((((Below.refl _ _).alloc (Nat.le_refl _) _).alloc (by simp) _).alloc (by simp; omega) _).trans (hz.mono (by simp; omega))
  have z0 : w.heap.size < w3.heap.size := by have := hz.size; simp at this; omega
  have z1 : w.heap.size + 1 < w3.heap.size := by have := hz.size; simp at this; omega
  have z2 : w.heap.size + 2 < w3.heap.size := by have := hz.size; simp at this; omega
  go_upto_region 4 with fail
  refine wp_draws _ (Below.refl _ _) (by kernel_rfl) (by kernel_rfl) (fun hne hN => ?_)
  repeat (go_big_quiet_step (first
    | (go_at_call 16; with_reducible exact After.calls (may1 hr.out _))
    | (go_at_call 15; with_reducible exact After.calls (awake0 _))
    | (go_at_call 14; first | (with_reducible exact After.calls (with1 (v := r) (r := r) hw2.out _)) | (with_reducible exact After.calls (with1 (v := v) (r := r) hw1.out _)))
    | (go_at_call 13; first | (with_reducible exact After.calls (has1 h5.out _)) | (with_reducible exact After.calls (has1 h6.out _)) | (with_reducible exact After.calls (has1 h7.out _)))))
  refine wpQuiet_nil (after_cells ?_)
  intro w4 hb4 hc4
  go_wp2_with fail
  go_ret
  exact ⟨rfl, (q3.alloc q3.size _).trans (hb4.mono (by have := q3.size; simp; omega))⟩

set_option maxHeartbeats 2000000 in
theorem goodK (v r : Nat → Int) (n k m j : Int) (δ : Bool) (w : World) (hm : Hid (mayV v = true)) (hr : Hid (mayV r = true)) (h1 : decide (n < 0) = false) (h2 : decide (8 ≤ n) = false) (h3 : decide (k < 1) = false) (h4 : decide (1000000 < k) = false)
    (hw1 : Hid (∀ i, i < 8 → wiV v n k i = r i)) (hw2 : Hid (∀ i, i < 8 → wiV r n k i = r i)) (h5 : Hid (hasV r m j = false)) (h6 : Hid (hasV v m j = false)) (h7 : Hid (hasV v n k = δ))
    (h8 : eq8 (r 0) (r 1) (r 2) (r 3) (r 4) (r 5) (r 6) (r 7) (v 0) (v 1) (v 2) (v 3) (v 4) (v 5) (v 6) (v 7) = δ) (h9 : (m == n) = true) (h10 : decide (1 ≤ j) = false) :
    Calls Try.prog 4 #[V v, .agg #[.int .i64 n, .int .i64 k], .agg #[.int .i64 m, .int .i64 j]] w fun e w' => e = .returned (.bool true) ∧ Below w.heap.size w w' := by
  go_enter Try.func4, Try.ntmps4
  go_upto_region 1 with fail
  refine wp_text _ (Below.refl _ _) (fun hne hN => ?_)
  repeat (go_big_quiet_step (first | (go_at_call 16; with_reducible exact After.calls (may1 hm.out _))))
  refine wpQuiet_nil (after_cells ?_)
  intro w2 hb2 hc2
  go_wp2_with fail
  refine Calls.cells (with1 (v := v) (r := r) hw1.out _) ?_
  intro w3 hb3 hc3
  have hz : Below _ _ _ := hb2.trans (hb3.mono hb2.size)
  clear hb3 hc3
  obtain ⟨hc3, _⟩ := bcell hz
  have q3 : Below w.heap.size w w3 := ((((Below.refl _ _).alloc (Nat.le_refl _) _).alloc (by simp) _).alloc (by simp; omega) _).trans (hz.mono (by simp; omega))
  have z0 : w.heap.size < w3.heap.size := by have := hz.size; simp at this; omega
  have z1 : w.heap.size + 1 < w3.heap.size := by have := hz.size; simp at this; omega
  have z2 : w.heap.size + 2 < w3.heap.size := by have := hz.size; simp at this; omega
  go_upto_region 4 with fail
  refine wp_draws _ (Below.refl _ _) (by kernel_rfl) (by kernel_rfl) (fun hne hN => ?_)
  repeat (go_big_quiet_step (first
    | (go_at_call 16; with_reducible exact After.calls (may1 hr.out _))
    | (go_at_call 15; with_reducible exact After.calls (awake0 _))
    | (go_at_call 14; first | (with_reducible exact After.calls (with1 (v := r) (r := r) hw2.out _)) | (with_reducible exact After.calls (with1 (v := v) (r := r) hw1.out _)))
    | (go_at_call 13; first | (with_reducible exact After.calls (has1 h5.out _)) | (with_reducible exact After.calls (has1 h6.out _)) | (with_reducible exact After.calls (has1 h7.out _)))))
  refine wpQuiet_nil (after_cells ?_)
  intro w4 hb4 hc4
  go_wp2_with fail
  go_ret
  exact ⟨rfl, (q3.alloc q3.size _).trans (hb4.mono (by have := q3.size; simp; omega))⟩

set_option maxHeartbeats 2000000 in
theorem goodJ (v r : Nat → Int) (n k m j : Int) (δ : Bool) (w : World) (hm : Hid (mayV v = true)) (hr : Hid (mayV r = true)) (h1 : decide (n < 0) = false) (h2 : decide (8 ≤ n) = false) (h3 : decide (k < 1) = false) (h4 : decide (1000000 < k) = false)
    (hw1 : Hid (∀ i, i < 8 → wiV v n k i = r i)) (hw2 : Hid (∀ i, i < 8 → wiV r n k i = r i)) (h5 : Hid (hasV r m j = decide (j ≤ k))) (h6 : Hid (hasV v m j = false)) (h7 : Hid (hasV v n k = δ))
    (h8 : eq8 (r 0) (r 1) (r 2) (r 3) (r 4) (r 5) (r 6) (r 7) (v 0) (v 1) (v 2) (v 3) (v 4) (v 5) (v 6) (v 7) = δ) (h9 : (m == n) = true) (h10 : decide (1 ≤ j) = true) :
    Calls Try.prog 4 #[V v, .agg #[.int .i64 n, .int .i64 k], .agg #[.int .i64 m, .int .i64 j]] w fun e w' => e = .returned (.bool true) ∧ Below w.heap.size w w' := by
  go_enter Try.func4, Try.ntmps4
  go_upto_region 1 with fail
  refine wp_text _ (Below.refl _ _) (fun hne hN => ?_)
  repeat (go_big_quiet_step (first | (go_at_call 16; with_reducible exact After.calls (may1 hm.out _))))
  refine wpQuiet_nil (after_cells ?_)
  intro w2 hb2 hc2
  go_wp2_with fail
  refine Calls.cells (with1 (v := v) (r := r) hw1.out _) ?_
  intro w3 hb3 hc3
  have hz : Below _ _ _ := hb2.trans (hb3.mono hb2.size)
  clear hb3 hc3
  obtain ⟨hc3, _⟩ := bcell hz
  have q3 : Below w.heap.size w w3 := ((((Below.refl _ _).alloc (Nat.le_refl _) _).alloc (by simp) _).alloc (by simp; omega) _).trans (hz.mono (by simp; omega))
  have z0 : w.heap.size < w3.heap.size := by have := hz.size; simp at this; omega
  have z1 : w.heap.size + 1 < w3.heap.size := by have := hz.size; simp at this; omega
  have z2 : w.heap.size + 2 < w3.heap.size := by have := hz.size; simp at this; omega
  go_upto_region 4 with fail
  refine wp_draws _ (Below.refl _ _) (by kernel_rfl) (by kernel_rfl) (fun hne hN => ?_)
  repeat (go_big_quiet_step (first
    | (go_at_call 16; with_reducible exact After.calls (may1 hr.out _))
    | (go_at_call 15; with_reducible exact After.calls (awake0 _))
    | (go_at_call 14; first | (with_reducible exact After.calls (with1 (v := r) (r := r) hw2.out _)) | (with_reducible exact After.calls (with1 (v := v) (r := r) hw1.out _)))
    | (go_at_call 13; first | (with_reducible exact After.calls (has1 h5.out _)) | (with_reducible exact After.calls (has1 h6.out _)) | (with_reducible exact After.calls (has1 h7.out _)))))
  refine wpQuiet_nil (after_cells ?_)
  intro w4 hb4 hc4
  go_wp2_with fail
  go_ret
  exact ⟨rfl, (q3.alloc q3.size _).trans (hb4.mono (by have := q3.size; simp; omega))⟩

end Go.Proofs.Ytngoopfdfihkpaa.WClockDots
