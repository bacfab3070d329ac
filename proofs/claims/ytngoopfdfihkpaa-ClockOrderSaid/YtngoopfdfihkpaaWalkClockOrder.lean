/- ClockOrder: the walk put together. No condition. -/
import Derived.Test.YtngoopfdfihkpaaCaseClockOrder
namespace Go.Proofs.Ytngoopfdfihkpaa.WClockOrder
open Go.RowKit Kit Clk
open PClockForms (cmpE compare1 cmpE_val)
theorem same (a0 a1 : Int) : cmpE a0 a1 a0 a1 = 0 := by rw [cmpE_val]; simp
theorem below {a0 a1 b0 b1 : Int} (h : a0 < b0 ∨ a0 = b0 ∧ a1 < b1) : cmpE a0 a1 b0 b1 = -1 := by
  rw [cmpE_val]; repeat (first | omega | split)
theorem above {a0 a1 b0 b1 : Int} (h : b0 < a0 ∨ a0 = b0 ∧ b1 < a1) : cmpE a0 a1 b0 b1 = 1 := by
  rw [cmpE_val]; repeat (first | omega | split)
theorem not_pos {a0 a1 b0 b1 : Int} (h : ¬ 0 < cmpE a0 a1 b0 b1) : a0 < b0 ∨ a0 = b0 ∧ a1 ≤ b1 := by
  by_cases k : a0 < b0 ∨ a0 = b0 ∧ a1 ≤ b1
  · exact k
  · rw [above (by omega)] at h; omega
theorem law (a0 a1 b0 b1 c0 c1 : Int) (w : World) :
    Calls Try.prog 6 #[.agg #[.int .i64 a0, .int .i64 a1], .agg #[.int .i64 b0, .int .i64 b1], .agg #[.int .i64 c0, .int .i64 c1]] w fun e w' => e = .returned (.bool true) ∧ Below w.heap.size w w' := by
  have tri : (a0 = b0 ∧ a1 = b1) ∨ b0 < a0 ∨ (a0 = b0 ∧ b1 < a1) ∨ a0 < b0 ∨ (a0 = b0 ∧ a1 < b1) := by omega
  rcases tri with ⟨rfl, rfl⟩ | h | ⟨rfl, h⟩ | h | ⟨rfl, h⟩
  · by_cases hp : 0 < cmpE a0 a1 c0 c1
    · exact eq_pos a0 a1 c0 c1 _ w (same _ _) (same _ _) rfl (by simpa using hp)
    · exact eq_neg a0 a1 c0 c1 _ w (same _ _) (same _ _) rfl (by simpa using hp) (by simpa using hp)
  · exact gt_f a0 a1 b0 b1 c0 c1 _ _ w (above (by omega)) (below (by omega)) rfl rfl (by simp; omega)
  · exact gt_s a0 a1 b1 c0 c1 _ _ w (above (by omega)) (below (by omega)) rfl rfl (by simp; omega)
  · by_cases hp : 0 < cmpE b0 b1 c0 c1
    · exact lt_pos_f a0 a1 b0 b1 c0 c1 _ _ w (below (by omega)) (above (by omega)) rfl rfl (by simp; omega) (by simpa using hp)
    · have hn := not_pos hp
      have hz : cmpE a0 a1 c0 c1 = -1 := below (by omega)
      exact lt_neg_f a0 a1 b0 b1 c0 c1 _ _ w (below (by omega)) (above (by omega)) rfl rfl (by simp; omega) (by simpa using hp) (by rw [hz]; decide) (by rw [hz]; decide)
  · by_cases hp : 0 < cmpE a0 b1 c0 c1
    · exact lt_pos_s a0 a1 b1 c0 c1 _ _ w (below (by omega)) (above (by omega)) rfl rfl (by simp; omega) (by simpa using hp)
    · have hn := not_pos hp
      have hz : cmpE a0 a1 c0 c1 = -1 := below (by omega)
      exact lt_neg_s a0 a1 b1 c0 c1 _ _ w (below (by omega)) (above (by omega)) rfl rfl (by simp; omega) (by simpa using hp) (by rw [hz]; decide) (by rw [hz]; decide)
def sh0 : Sh := .pair (.int .i64) (.pair (.int .i64) .unit)
def sh1 : Sh := sh0
def sh2 : Sh := sh0
theorem walk (w : World) (a : Array Value) (ha : RD w sh0 a.toList) (b : Array Value) (hb : RD w sh1 b.toList) (c : Array Value) (hc : RD w sh2 c.toList) :
    Calls Try.prog 6 #[.agg a, .agg b, .agg c] w fun e w' => e = .returned (.bool true) ∧ Below w.heap.size w w' := by
  obtain ⟨a0, a1, rfl, _, _⟩ := rd_two ha
  obtain ⟨b0, b1, rfl, _, _⟩ := rd_two hb
  obtain ⟨c0, c1, rfl, _, _⟩ := rd_two hc
  exact law a0 a1 b0 b1 c0 c1 w
end Go.Proofs.Ytngoopfdfihkpaa.WClockOrder
