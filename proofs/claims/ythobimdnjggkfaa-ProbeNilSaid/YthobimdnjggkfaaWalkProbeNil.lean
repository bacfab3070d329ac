/- ProbeNil: the walk of the law: an order that there isn't. No condition. -/
import Derived.Test.YthobimdnjggkfaaPrE
import Derived.Test.YthobimdnjggkfaaPrR
namespace Go.Proofs.Ythobimdnjggkfaa.WProbeNil
open Go.RowKit Kit Prb
set_option linter.unusedVariables false
theorem law (A : Option Addr) (n c : Nat) (d : Int) (w : World) : Calls Try.prog 5 #[.agg #[.slice A n c, .int .u64 d]] w fun e w' => e = .returned (.bool true) ∧ Below w.heap.size w w' := by
  go_enter Try.func5, Try.ntmps5
  go_wp2_with fail
  refine Calls.cells (next_nil _ _ _) ?_
  intro w1 h1 c1
  go_wp2_with fail
  refine Calls.cells (rest_nil _) ?_
  intro w2 h2 c2
  go_wp2_with fail
  refine Calls.cells (awakeP _) ?_
  intro w3 h3 c3
  go_wp2_with fail
  go_ret
  have b1 := ((Below.refl w.heap.size w).alloc (Nat.le_refl _) (.cells #[.slice A n c, .int .u64 d] 33)).trans (h1.mono (by simp))
  have b2 := b1.trans (h2.mono b1.size)
  exact ⟨rfl, b2.trans (h3.mono b2.size)⟩
def sh0 : Sh := .pair (.slice (.int .i64)) (.pair (.int .u64) .unit)
theorem walk (w : World) (a : Array Value) (ha : RD w sh0 a.toList) : Calls Try.prog 5 #[.agg a] w fun e w' => e = .returned (.bool true) ∧ Below w.heap.size w w' := by
  obtain ⟨xs, ys, h1, _, h2, h3⟩ := rd_pair ha
  obtain ⟨A, n, c, rfl⟩ := rd_slice h2
  obtain ⟨xs, zs, rfl, _, h4, h5⟩ := rd_pair h3
  obtain ⟨d, rfl, _⟩ := rd_int h4
  obtain rfl : zs = [] := h5
  obtain rfl : a = #[.slice A n c, .int .u64 d] := by cases a; simpa using h1
  exact law A n c d w
end Go.Proofs.Ythobimdnjggkfaa.WProbeNil
