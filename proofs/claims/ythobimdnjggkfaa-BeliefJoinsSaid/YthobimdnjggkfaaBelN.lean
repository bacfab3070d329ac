/- Chapter 2 at a view that there isn't, and at a view of which nothing is said: the contracts. No condition beside those typed. -/
import Derived.Test.YthobimdnjggkfaaBelB
namespace Go.Proofs.Ythobimdnjggkfaa.Bel
open Go.RowKit Kit PBeliefJoins
set_option linter.unusedVariables false
theorem hear_nil (n i h : Int) (w : World) : Calls Try.prog 33 #[.pointer none, .agg #[.int .i64 n, .int .i64 i, .int .i64 h]] w fun e w' => e = .returned (.bool false) ∧ Below w.heap.size w w' := by
  go_enter Try.func33, Try.ntmps33
  go_upto_region 1 with fail
  refine wp_draws _ (Below.refl _ _) (by kernel_rfl) (by kernel_rfl) (fun hne hN => ?_)
  repeat (go_big_quiet_step (fail))
  refine wpQuiet_nil (after_cells ?_)
  intro w2 hb2 hc2
  go_wp2_with fail
  go_ret
  exact ⟨rfl, (Below.refl _ _).alloc (Nat.le_refl _) _ |>.trans (hb2.mono (by simp))⟩
theorem of_nil (n : Int) (w : World) : Calls Try.prog 24 #[.pointer none, .int .i64 n] w fun e w' => e = .returned (.agg #[.int .i64 0, .int .i64 0, .int .i64 0]) ∧ Below w.heap.size w w' := by
  go_enter Try.func24, Try.ntmps24
  go_wp2_with fail
  go_returns
  exact ⟨rfl, by go_grown⟩
theorem some_nil (f : Value) (w : World) : Calls Try.prog 40 #[.pointer none, f] w fun e w' => e = .returned (.slice none 0 0) ∧ w = w' := by
  go_enter Try.func40, Try.ntmps40
  go_wp2_with fail
  go_ret
  exact ⟨rfl, rfl⟩
theorem all_nil (w : World) : Calls Try.prog 25 #[.pointer none] w fun e w' => e = .returned (.slice none 0 0) ∧ w = w' := by
  go_enter Try.func25, Try.ntmps25
  go_wp2_with (go_at_call 40; refine (some_nil _ _).mono ?_; rintro e w' ⟨rfl, rfl⟩)
  go_ret
  exact ⟨rfl, rfl⟩
theorem here_nil (w : World) : Calls Try.prog 34 #[.pointer none] w fun e w' => e = .returned (.slice none 0 0) ∧ w = w' := by
  go_enter Try.func34, Try.ntmps34
  go_wp2_with (go_at_call 40; refine (some_nil _ _).mono ?_; rintro e w' ⟨rfl, rfl⟩)
  go_rounds 1
  go_ret
  exact ⟨rfl, rfl⟩
theorem copy_nil (w : World) : Calls Try.prog 30 #[.pointer none] w fun e w' => e = .returned (.pointer none) ∧ w = w' := by
  go_enter Try.func30, Try.ntmps30
  go_wp2_with fail
  go_ret
  exact ⟨rfl, rfl⟩
theorem join_none (v : Value) (w : World) : Calls Try.prog 31 #[v, .pointer none] w fun e w' => e = .returned (.int .i64 0) ∧ w = w' := by
  go_enter Try.func31, Try.ntmps31
  go_wp2_with (go_at_call 25; refine (all_nil _).mono ?_; rintro e w' ⟨rfl, rfl⟩)
  go_rounds 1
  go_ret
  exact ⟨rfl, rfl⟩
end Go.Proofs.Ythobimdnjggkfaa.Bel
