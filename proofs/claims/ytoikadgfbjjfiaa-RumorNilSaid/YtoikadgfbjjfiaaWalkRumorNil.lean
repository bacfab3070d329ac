/- RumorNil: the walk of the law: a queue that there isn't. No condition. -/
import Derived.Test.YtoikadgfbjjfiaaRpM
namespace Go.Proofs.Ytoikadgfbjjfiaa.WRumorNil
open Go.RowKit Kit Rum Hth Tri3
set_option linter.unusedVariables false
theorem eq0 (w : World) : (binOp .eql 53 (.agg #[.int .i64 0, .int .i64 0, .int .i64 0]) (.agg #[.int .i64 0, .int .i64 0, .int .i64 0])).run Try.prog w = .ok (.bool true) w := by kernel_rfl
set_option maxRecDepth 100000 in
set_option maxHeartbeats 2000000 in
theorem law (d n a b c : Int) (w : World) : Calls Try.prog 10 #[.agg #[.int .i64 d, .int .i64 n, .int .i64 a, .int .i64 b, .int .i64 c]] w fun e w' => e = .returned (.bool true) ∧ Below w.heap.size w w' := by
  have b0 := Hid.mk_ ((Below.refl w.heap.size w).alloc (Nat.le_refl _) (.cells #[.int .i64 d, .int .i64 n, .int .i64 a, .int .i64 b, .int .i64 c] 55))
  have x1 : (w.alloc (.cells #[.int .i64 d, .int .i64 n, .int .i64 a, .int .i64 b, .int .i64 c] 55)).cell? ⟨w.heap.size, 1, none⟩ = some (.int .i64 n) := by rw [World.cell?_alloc_new]; rfl
  have x2 : (w.alloc (.cells #[.int .i64 d, .int .i64 n, .int .i64 a, .int .i64 b, .int .i64 c] 55)).cell? ⟨w.heap.size, 2, none⟩ = some (.int .i64 a) := by rw [World.cell?_alloc_new]; rfl
  have x3 : (w.alloc (.cells #[.int .i64 d, .int .i64 n, .int .i64 a, .int .i64 b, .int .i64 c] 55)).cell? ⟨w.heap.size, 3, none⟩ = some (.int .i64 b) := by rw [World.cell?_alloc_new]; rfl
  have x4 : (w.alloc (.cells #[.int .i64 d, .int .i64 n, .int .i64 a, .int .i64 b, .int .i64 c] 55)).cell? ⟨w.heap.size, 4, none⟩ = some (.int .i64 c) := by rw [World.cell?_alloc_new]; rfl
  go_enter Try.func10, Try.ntmps10
  go_upto_region 2 with fail
  generalize w.alloc (.cells #[.int .i64 d, .int .i64 n, .int .i64 a, .int .i64 b, .int .i64 c] 55) = w1 at *
  have he := eq0
  go_upto_region 3 with (go_at_call 35; refine (has_nil n _).mono ?_; rintro e w2 ⟨rfl, b2⟩)
  have y1 := keep1 b2 x1
  have y2 := keep1 b2 x2
  have y3 := keep1 b2 x3
  have y4 := keep1 b2 x4
  have al := (Below.refl w2.heap.size w2).alloc (Nat.le_refl _) (.cells #[.int .i64 0, .int .i64 0, .int .i64 0] 53)
  have bx := Box3.made w2 0 0 0
  replace y1 := keep1 al y1
  replace y2 := keep1 al y2
  replace y3 := keep1 al y3
  replace y4 := keep1 al y4
  have B3 := Hid.mk_ ((b0.out.trans (b2.mono b0.out.size)).trans (al.mono (Nat.le_trans b0.out.size b2.size)))
  clear x1 x2 x3 x4 b2 al b0
  generalize w2.alloc (.cells #[.int .i64 0, .int .i64 0, .int .i64 0] 53) = w3 at *
  generalize w2.heap.size = p at *
  obtain ⟨z0, z1, z2, _, _, _⟩ := bx
  go_wp2_with (first
    | (go_at_call 32; refine (put_nil ⟨a, b, c⟩ w3).mono ?_; rintro e w4 ⟨rfl, b4⟩; have u0 := keep1 b4 z0; have u1 := keep1 b4 z1; have u2 := keep1 b4 z2; have v1 := keep1 b4 y1)
    | (go_at_call 30; refine (take_nil n w4).mono ?_; rintro e w5 ⟨rfl, rfl⟩)
    | (go_at_call 34; refine (len_nil _).mono ?_; rintro e w5 ⟨rfl, rfl⟩)
    | (go_at_call 37; refine (awake _).mono ?_; rintro e w6 ⟨rfl, b6⟩))
  go_ret
  have z4 := B3.out.trans (b4.mono B3.out.size)
  exact ⟨rfl, z4.trans (b6.mono z4.size)⟩
def sh0 : Sh := .pair (.int .i64) (.pair (.int .i64) (.pair (.pair (.int .i64) (.pair (.int .i64) (.pair (.int .i64) .unit))) .unit))
theorem walk (w : World) (a : Array Value) (ha : RD w sh0 a.toList) : Calls Try.prog 10 #[.agg a] w fun e w' => e = .returned (.bool true) ∧ Below w.heap.size w w' := by
  obtain ⟨x, y, z, u, v, h⟩ := rd_five ha
  obtain rfl : a = #[.int .i64 x, .int .i64 y, .int .i64 z, .int .i64 u, .int .i64 v] := by cases a; simpa using h
  exact law x y z u v w
end Go.Proofs.Ytoikadgfbjjfiaa.WRumorNil
