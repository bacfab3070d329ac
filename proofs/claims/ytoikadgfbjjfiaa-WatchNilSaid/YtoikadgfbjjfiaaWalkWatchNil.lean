/- WatchNil: the walk of the law: a clock that there isn't. No condition. -/
import Derived.Test.YtoikadgfbjjfiaaHpN
import Derived.Test.YtoikadgfbjjfiaaThrees
namespace Go.Proofs.Ytoikadgfbjjfiaa.WWatchNil
open Go.RowKit Kit Wat Wat.Ints Tri3
set_option linter.unusedVariables false
set_option maxRecDepth 100000 in
set_option maxHeartbeats 2000000 in
theorem law (d i a : Int) (w : World) : Calls Try.prog 5 #[.agg #[.int .i64 d, .int .i64 i, .int .i64 a]] w fun e w' => e = .returned (.bool true) ∧ Below w.heap.size w w' := by
  have b0 := (Below.refl w.heap.size w).alloc (Nat.le_refl _) (.cells #[.int .i64 d, .int .i64 i, .int .i64 a] 37)
  go_enter Try.func5, Try.ntmps5
  go_upto_region 2 with fail
  have x1 : (w.alloc (.cells #[.int .i64 d, .int .i64 i, .int .i64 a] 37)).cell? ⟨w.heap.size, 1, none⟩ = some (.int .i64 i) := by rw [World.cell?_alloc_new]; rfl
  have x2 : (w.alloc (.cells #[.int .i64 d, .int .i64 i, .int .i64 a] 37)).cell? ⟨w.heap.size, 2, none⟩ = some (.int .i64 a) := by rw [World.cell?_alloc_new]; rfl
  generalize w.alloc (.cells #[.int .i64 d, .int .i64 i, .int .i64 a] 37) = w1 at *
  go_upto_region 3 with (go_at_call 25; refine (at_nil i _).mono ?_; rintro e w2 ⟨rfl, b2⟩; have y1 := keep1 b2 x1; have y2 := keep1 b2 x2)
  clear x1 x2
  go_wp2_with (first | (go_at_call 17; refine (set_nil _ _ _).mono ?_; rintro e w3 ⟨rfl, rfl⟩) | (go_at_call 20; refine (cut_nil i _).mono ?_; rintro e w4 ⟨rfl, b4⟩; have x2 := keep1 b4 y2) | (go_at_call 18; refine (due_nil _ _).mono ?_; rintro e w3 ⟨rfl, rfl⟩) | (go_at_call 19; refine (len_nil _).mono ?_; rintro e w3 ⟨rfl, rfl⟩) | (go_at_call 15; refine (awake _).mono ?_; rintro e w5 ⟨rfl, b5⟩))
  go_ret
  have b3 := b0.trans (b2.mono b0.size)
  have b6 := b3.trans (b4.mono b3.size)
  exact ⟨rfl, b6.trans (b5.mono b6.size)⟩
def sh0 : Sh := .pair (.int .i64) (.pair (.int .i64) (.pair (.int .i64) .unit))
theorem walk (w : World) (a : Array Value) (ha : RD w sh0 a.toList) : Calls Try.prog 5 #[.agg a] w fun e w' => e = .returned (.bool true) ∧ Below w.heap.size w w' := by
  obtain ⟨x, y, z, h⟩ := rd_three ha
  obtain rfl : a = #[.int .i64 x, .int .i64 y, .int .i64 z] := by cases a; simpa using h
  exact law x y z w
end Go.Proofs.Ytoikadgfbjjfiaa.WWatchNil
