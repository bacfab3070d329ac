/- Chapter 3: rumors that every program must know to tell. No condition. -/
import Derived.Test.YtoikadgfbjjfiaaRpL
namespace Go.Proofs.Ytoikadgfbjjfiaa.Rum
open Go.RowKit Kit Go.Shelf Hth Tri3
set_option linter.unusedVariables false
theorem aw1 : putQ ⟨2, 1, 1⟩ [] = [⟨2, 1, 1, 0⟩] := by kernel_rfl
theorem aw2 : putQ ⟨1, 1, 3⟩ [⟨2, 1, 1, 0⟩] = [⟨1, 1, 3, 0⟩, ⟨2, 1, 1, 0⟩] := by kernel_rfl
theorem aw3 : tookQ 1 1 [⟨1, 1, 3, 0⟩, ⟨2, 1, 1, 0⟩] = [⟨2, 1, 1, 0⟩] := by kernel_rfl
theorem aw4 : putB ⟨2, 1, 1⟩ [] = true := by kernel_rfl
theorem aw5 : putB ⟨1, 1, 3⟩ [⟨2, 1, 1, 0⟩] = true := by kernel_rfl
theorem aw6 : toldQ 1 [⟨1, 1, 3, 0⟩, ⟨2, 1, 1, 0⟩] = [⟨1, 1, 3⟩] := by kernel_rfl
set_option maxRecDepth 100000 in
set_option maxHeartbeats 1000000 in
theorem awake (w : World) : Calls Try.prog 37 #[] w fun e w' => e = .returned (.bool true) ∧ Below w.heap.size w w' := by
  go_enter Try.func37, Try.ntmps37
  go_upto_region 2 with (go_at_call 27; refine (new0 _ 1 1 (Hid.mk_ rfl)).mono ?_; rintro e w1 ⟨g, rfl, h1, hg, b1⟩)
  go_upto_region 3 with (go_at_call 32; refine (put0 w1 g 1 none [] ⟨2, 1, 1⟩ h1 true (Hid.mk_ aw4.symm) [⟨2, 1, 1, 0⟩] (Hid.mk_ aw1.symm)).mono ?_; rintro e w2 ⟨rfl, t2⟩)
  obtain ⟨A2, k2, f2, r2⟩ := t2.out
  have c2 := h1.out.wrBelow r2 hg.out
  have h2 := Hid.mk_ k2
  clear t2 k2 f2 r2 h1
  go_upto_region 4 with (go_at_call 32; refine (put0 w2 g 1 A2 _ ⟨1, 1, 3⟩ h2 true (Hid.mk_ aw5.symm) [⟨1, 1, 3, 0⟩, ⟨2, 1, 1, 0⟩] (Hid.mk_ aw2.symm)).mono ?_; rintro e w3 ⟨rfl, t3⟩)
  obtain ⟨A3, k3, f3, r3⟩ := t3.out
  have c3 := h2.out.wrBelow r3 hg.out
  have h3 := Hid.mk_ k3
  clear t3 k3 f3 r3 h2
  go_upto_region 5 with (go_at_call 30; refine (take0 w3 g 1 A3 _ 1 h3 1 (Hid.mk_ rfl)).mono ?_; rintro e w4 ⟨B, nb, cb, rfl, o4, n4, t4⟩)
  obtain ⟨A4, k4, f4, r4⟩ := t4.out
  have c4 := h3.out.wrBelow r4 hg.out
  rw [aw3] at k4
  have h4 := Hid.mk_ k4
  obtain rfl : nb = 1 := n4.out
  have ro := o4.out.row
  rw [aw6] at ro
  obtain ⟨b, off, rfl, _, x0, _, _⟩ := ro 0 _ rfl
  simp only [Nat.zero_mul, Nat.add_zero] at x0
  clear t4 k4 f4 r4 h3 ro
  go_wp2_with (go_at_call 34; refine (len _ g 1 A4 _ h4 1 (Hid.mk_ rfl)).mono ?_; rintro e w5 ⟨rfl, rfl⟩)
  go_ret
  exact ⟨rfl, (((b1.trans c2).trans c3).trans c4)⟩
/-- A struct of five numbers. -/
theorem rd_five {w : World} {cs : List Value} (h : RD w (.pair (.int .i64) (.pair (.int .i64) (.pair (.pair (.int .i64) (.pair (.int .i64) (.pair (.int .i64) .unit))) .unit))) cs) : ∃ d n a b c : Int, cs = [.int .i64 d, .int .i64 n, .int .i64 a, .int .i64 b, .int .i64 c] := by
  obtain ⟨_, _, rfl, _, g0, h0⟩ := rd_pair h
  obtain ⟨d, rfl, _⟩ := rd_int g0
  obtain ⟨_, _, rfl, _, g1, h1⟩ := rd_pair h0
  obtain ⟨n, rfl, _⟩ := rd_int g1
  obtain ⟨_, _, rfl, _, g2, h2⟩ := rd_pair h1
  obtain ⟨a, b, c, rfl⟩ := rd_three g2
  obtain rfl := rd_unit h2
  exact ⟨d, n, a, b, c, rfl⟩
end Go.Proofs.Ytoikadgfbjjfiaa.Rum
