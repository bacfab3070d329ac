/- ClockForms: the walk of the law: the program's chapter 13 answers as the reference does. No condition. -/
import Derived.Test.YtngoopfdfihkpaaClockD
import Derived.Test.YtngoopfdfihkpaaClockE
import Derived.Test.YtngoopfdfihkpaaReads
namespace Go.Proofs.Ytngoopfdfihkpaa.WClockForms
open Go.RowKit Kit Clk
set_option linter.unusedVariables false
attribute [local go_sem high] run_equalIn_8
attribute [local go_sem] eq8_self
set_option maxHeartbeats 4000000 in
theorem law (a b : Nat → Int) (n k m j : Int) (w : World) :
    Calls Try.prog 10 #[V a, V b, .agg #[.int .i64 n, .int .i64 k], .agg #[.int .i64 m, .int .i64 j]] w fun e w' => e = .returned (.bool true) ∧ Below w.heap.size w w' := by
  go_enter Try.func10, Try.ntmps10
  go_upto_region 1 with fail
  refine wp_draws _ (Below.refl _ _) (by kernel_rfl) (by kernel_rfl) (fun hne hN => ?_)
  repeat (go_big_quiet_step (first
    | (go_at_call 16; with_reducible exact After.calls (may0 a _)) | (go_at_call 27; with_reducible exact After.calls (rmay0 a _))
    | (go_at_call 11; with_reducible exact After.calls (join0 a b _)) | (go_at_call 28; with_reducible exact After.calls (rjoin0 a b _))
    | (go_at_call 12; with_reducible exact After.calls (below0 a b _)) | (go_at_call 29; with_reducible exact After.calls (rbelow0 a b _))
    | (go_at_call 13; with_reducible exact After.calls (has0 a n k _)) | (go_at_call 30; with_reducible exact After.calls (rhas0 a n k _))
    | (go_at_call 14; with_reducible exact After.calls (with0 a n k _)) | (go_at_call 31; with_reducible exact After.calls (rwith0 a n k _))
    | (go_at_call 20; with_reducible exact After.calls (PClockForms.compare1 (a0 := n) (a1 := k) (b0 := m) (b1 := j) rfl _)) | (go_at_call 32; with_reducible exact After.calls (PClockForms.rcompare1 (a0 := n) (a1 := k) (b0 := m) (b1 := j) rfl _))
    | (go_at_call 15; with_reducible exact After.calls (awake0 _))))
  refine wpQuiet_nil (after_cells ?_)
  intro w4 hb4 hc4
  go_wp2_with fail
  go_ret
  exact ⟨rfl, (((((Below.refl _ _).alloc (Nat.le_refl _) _).alloc (by simp) _).alloc (by simp; omega) _).alloc (by simp; omega) _).trans (hb4.mono (by simp; omega))⟩
def sh0 : Sh := .pair (.int .i64) (.pair (.int .i64) (.pair (.int .i64) (.pair (.int .i64) (.pair (.int .i64) (.pair (.int .i64) (.pair (.int .i64) (.pair (.int .i64) .unit)))))))
def sh1 : Sh := sh0
def sh2 : Sh := .pair (.int .i64) (.pair (.int .i64) .unit)
def sh3 : Sh := sh2
theorem walk (w : World) (a : Array Value) (ha : RD w sh0 a.toList) (b : Array Value) (hb : RD w sh1 b.toList) (c : Array Value) (hc : RD w sh2 c.toList) (d : Array Value) (hd : RD w sh3 d.toList) :
    Calls Try.prog 10 #[.agg a, .agg b, .agg c, .agg d] w fun e w' => e = .returned (.bool true) ∧ Below w.heap.size w w' := by
  obtain ⟨u, rfl, _⟩ := rd_eight ha
  obtain ⟨v, rfl, _⟩ := rd_eight hb
  obtain ⟨n, k, rfl, _, _⟩ := rd_two hc
  obtain ⟨m, j, rfl, _, _⟩ := rd_two hd
  exact law u v n k m j w
end Go.Proofs.Ytngoopfdfihkpaa.WClockForms
