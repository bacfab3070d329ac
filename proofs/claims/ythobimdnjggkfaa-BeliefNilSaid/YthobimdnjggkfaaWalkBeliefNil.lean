/- BeliefNil: the walk of the law: a view that there isn't. No condition. -/
import Derived.Test.YthobimdnjggkfaaBelM
namespace Go.Proofs.Ythobimdnjggkfaa.WBeliefNil
open Go.RowKit Kit PBeliefJoins Bel
set_option linter.unusedVariables false
theorem own_form {w : World} {base : Nat} {e : TypeId} {size : Nat} {v : Value} {n : Nat} {xs : List Value} (h : w.ownsRow base e size v n xs) : ∃ A c, v = .slice A n c := by
  rcases h.2 with ⟨rfl, rfl⟩ | ⟨g, cap, cur, rfl, _⟩
  · exact ⟨_, _, rfl⟩
  · exact ⟨_, _, rfl⟩
theorem cnt_z : ∀ k, cntC (fun k => !(z8 k == 0)) k = 0
  | 0 => rfl
  | k + 1 => by unfold cntC; rw [cnt_z k]; rfl
theorem join_new (p : Nat → Int) (g : Nat) (w : World) (hv : Hid (Vw w g p z8)) : Calls Try.prog 31 #[.pointer none, .pointer (some ⟨g, 0, none⟩)] w fun e w' => e = .returned (.int .i64 0) ∧ Below w.heap.size w w' := by
  go_enter Try.func31, Try.ntmps31
  go_wp2_with fail
  refine (all0 p z8 g w hv).mono ?_
  rintro e w' ⟨v, rfl, h1, h2⟩
  rw [cnt_z] at h1
  obtain ⟨A, c, rfl⟩ := own_form h1
  clear h1
  go_wp2_with fail
  go_rounds 1
  go_ret
  exact ⟨rfl, h2⟩
set_option maxHeartbeats 2000000 in
theorem law (n i h : Int) (w : World) : Calls Try.prog 12 #[.agg #[.int .i64 n, .int .i64 i, .int .i64 h]] w fun e w' => e = .returned (.bool true) ∧ Below w.heap.size w w' := by
  go_enter Try.func12, Try.ntmps12
  go_wp2_with fail
  refine (new0 _).mono ?_
  rintro e w1 ⟨g, rfl, hg, hv0, hb1⟩
  have HV := Hid.mk_ hv0
  clear hv0
  have hc1 := (bcell hb1).1
  have b1 : Below w.heap.size w w1 := ((Below.refl _ _).alloc (Nat.le_refl _) _).trans (hb1.mono (by simp))
  have z1 : w.heap.size < w1.heap.size := by have := hb1.size; simp at this; omega
  have hgz : g < w1.heap.size := HV.out.lt
  go_upto_region 3 with fail
  go_wp2_with fail
  refine Calls.cells (hear_nil n i h _) ?_
  intro w2 hb2 hc2
  go_wp2_with fail
  refine Calls.cells (of_nil n _) ?_
  intro w3 hb3 hc3
  go_wp2_with (first | (go_at_call 25; refine (all_nil _).mono ?_; rintro e w' ⟨rfl, rfl⟩) | (go_at_call 34; refine (here_nil _).mono ?_; rintro e w' ⟨rfl, rfl⟩))
  have HV3 := Hid.mk_ ((HV.out.below hb2 hgz).below hb3 (Nat.lt_of_lt_of_le hgz hb2.size))
  refine Calls.cells (join_new z8 g _ HV3) ?_
  intro w4 hb4 hc4
  go_wp2_with (first | (go_at_call 30; refine (copy_nil _).mono ?_; rintro e w' ⟨rfl, rfl⟩) | (go_at_call 31; refine (join_none _ _).mono ?_; rintro e w' ⟨rfl, rfl⟩))
  refine Calls.cells (awakeB _) ?_
  intro w5 hb5 hc5
  go_wp2_with fail
  go_ret
  have b3 := b1.trans (hb2.mono b1.size)
  have b4 := b3.trans (hb3.mono b3.size)
  have b5 := b4.trans (hb4.mono b4.size)
  exact ⟨rfl, b5.trans (hb5.mono b5.size)⟩
def sh0 : Sh := .pair (.int .i64) (.pair (.int .i64) (.pair (.int .i64) .unit))
theorem walk (w : World) (a : Array Value) (ha : RD w sh0 a.toList) : Calls Try.prog 12 #[.agg a] w fun e w' => e = .returned (.bool true) ∧ Below w.heap.size w w' := by
  obtain ⟨x, y, z, h⟩ := rd_three ha
  obtain rfl : a = #[.int .i64 x, .int .i64 y, .int .i64 z] := by cases a; simpa using h
  exact law x y z w
end Go.Proofs.Ythobimdnjggkfaa.WBeliefNil
