/- EntryJoins: the ways of the law, one each. No condition beside those typed. -/
import Derived.Test.YtngoopfdfihkpaaPEntryJoinsx2
import Derived.Test.YtngoopfdfihkpaaEntJ
import Derived.Test.YtngoopfdfihkpaaKit
import Derived.Test.YtngoopfdfihkpaaReads
set_option linter.unusedVariables false
namespace Go.Proofs.Ytngoopfdfihkpaa.WEntryJoins
open Go.RowKit Kit PEntryJoins

def joE (a0 a1 b0 b1 : Int) : Int × Int := if cmpE b0 b1 a0 a1 > 0 then (b0, b1) else (a0, a1)
theorem join_s (a0 a1 b0 b1 : Int) : entry_Join.f 4 a0 a1 b0 b1 = some (joE a0 a1 b0 b1) := by
  unfold entry_Join.f joE
  rw [compare_s 4 (by omega)]
  simp only [Option.bind_some]
  split <;> rfl

def le (a0 a1 b0 b1 : Int) : Prop := a0 < b0 ∨ a0 = b0 ∧ a1 ≤ b1
theorem le_total (a0 a1 b0 b1 : Int) : le a0 a1 b0 b1 ∨ le b0 b1 a0 a1 := by unfold le; omega
theorem cmpE_val (a0 a1 b0 b1 : Int) : cmpE a0 a1 b0 b1 = if a0 < b0 then -1 else if a0 > b0 then 1 else if a1 < b1 then -1 else if a1 > b1 then 1 else 0 := by
  unfold cmpE cmpI
  by_cases h1 : a0 < b0
  · simp [h1]
  · by_cases h2 : a0 > b0
    · simp [h1, h2]
    · simp [h1, h2]
theorem joE_le {a0 a1 b0 b1 : Int} (h : le a0 a1 b0 b1) : joE a0 a1 b0 b1 = (b0, b1) := by
  unfold le at h
  unfold joE
  rw [cmpE_val]
  by_cases e : a0 = b0 ∧ a1 = b1
  · obtain ⟨rfl, rfl⟩ := e; simp
  · rw [if_pos]
    repeat (first | omega | split)
theorem joE_ge {a0 a1 b0 b1 : Int} (h : le b0 b1 a0 a1) : joE a0 a1 b0 b1 = (a0, a1) := by
  unfold le at h
  unfold joE
  rw [cmpE_val, if_neg]
  repeat (first | omega | split)

theorem join_c {a0 a1 b0 b1 x0 x1 : Int} (h : Hid (joE a0 a1 b0 b1 = (x0, x1))) (w : World) : Calls Try.prog 25 #[.agg #[.int .i64 a0, .int .i64 a1], .agg #[.int .i64 b0, .int .i64 b1]] w fun e w' =>
    e = .returned (.agg #[.int .i64 x0, .int .i64 x1]) ∧ Below w.heap.size w w' :=
  entry_Join.calls 4 a0 a1 b0 b1 _ _ w (by rw [join_s, h.out])
theorem compare_c {a0 a1 b0 b1 r : Int} (h : Hid (cmpE a0 a1 b0 b1 = r)) (w : World) : Calls Try.prog 23 #[.agg #[.int .i64 a0, .int .i64 a1], .agg #[.int .i64 b0, .int .i64 b1]] w fun e w' => e = .returned (.int .i64 r) ∧ Below w.heap.size w w' :=
  entry_Compare.calls 4 a0 a1 b0 b1 _ w (by rw [compare_s 4 (by omega), h.out])
theorem may_c {a0 a1 : Int} (h : Hid (mayE a0 a1 = true)) (w : World) : Calls Try.prog 18 #[.agg #[.int .i64 a0, .int .i64 a1]] w fun e w' => e = .returned (.bool true) ∧ Below w.heap.size w w' :=
  entry_May.calls a0 a1 _ w (by rw [may_s, h.out])
theorem flip_c {a0 a1 t d0 d1 e : Int} (h : Hid (entry_Flip.f 1 a0 a1 t = some (d0, d1, e))) (w : World) : Calls Try.prog 17 #[.agg #[.int .i64 a0, .int .i64 a1], .int .i64 t] w fun e' w' =>
    e' = .returned (.tuple #[.agg #[.int .i64 d0, .int .i64 d1], .int .i64 e]) ∧ Below w.heap.size w w' :=
  entry_Flip.calls 1 a0 a1 t _ _ _ w h.out
theorem awake_c (w : World) : Calls Try.prog 19 #[] w fun e w' => e = .returned (.bool true) ∧ Below w.heap.size w w' :=
  starlinglaw9_awake.calls 4 true w (awake_s 4 (by omega))

set_option maxHeartbeats 2000000 in
theorem case_eq_err (a0 a1 c0 c1 t y0 y1 e : Int) (w : World) (h1 : Hid (joE a0 a1 a0 a1 = (a0, a1))) (h2 : Hid (joE a0 a1 a0 a1 = (a0, a1))) (h3 : Hid (joE a0 a1 c0 c1 = (y0, y1))) (h4 : Hid (joE a0 a1 c0 c1 = (y0, y1))) (h5 : Hid (joE a0 a1 y0 y1 = (y0, y1))) (h6 : Hid (joE a0 a1 a0 a1 = (a0, a1))) (h7 : Hid (cmpE a0 a1 a0 a1 = 0)) (h8 : Hid (cmpE a0 a1 a0 a1 = 0)) (h9 : Hid (cmpE a0 a1 a0 a1 = 0)) (h10 : Hid (cmpE a0 a1 a0 a1 = 0)) (he : (e == 0) = false) (he2 : (e != 0) = true) (hf : Hid (entry_Flip.f 1 a0 a1 t = some (0, 0, e))) (hm : Hid (mayE 0 0 = true)) :
    Calls Try.prog 8 #[.agg #[.int .i64 a0, .int .i64 a1], .agg #[.int .i64 a0, .int .i64 a1], .agg #[.int .i64 c0, .int .i64 c1], .int .i64 t] w fun e w' => e = .returned (.bool true) ∧ Below w.heap.size w w' := by
  go_enter Try.func8, Try.ntmps8
  go_wp2_with fail
  refine (join_c h1 _).mono ?_
  rintro e w1 ⟨rfl, hb1⟩
  have hS0 : Below w.heap.size w (w1.alloc (Obj.cells #[Value.int IntKind.i64 a0, Value.int IntKind.i64 a1] 35)) := ((((Below.refl _ _).alloc (Nat.le_refl _) _).alloc (by simp) _).alloc (by simp; omega) _ |>.trans (hb1.mono (by simp; omega))).alloc (by have := hb1.size; simp at this; omega) _
  obtain ⟨hc1, hf1⟩ := bcell hb1
  have hz0 : w.heap.size < w1.heap.size := by have := hb1.size; simp at this; omega
  have hz1 : w.heap.size + 1 < w1.heap.size := by have := hb1.size; simp at this; omega
  have hz2 : w.heap.size + 2 < w1.heap.size := by have := hb1.size; simp at this; omega
  go_wp2_with fail
  refine wp_region_since (w1.alloc (Obj.cells #[Value.int IntKind.i64 a0, Value.int IntKind.i64 a1] 35)) (Below.refl _ _) (by kernel_rfl) (by kernel_rfl) (fun hne => ?_)
  have hN := @After.cell (w1.alloc (Obj.cells #[Value.int IntKind.i64 a0, Value.int IntKind.i64 a1] 35))
  repeat (go_big_quiet_step (first | (go_at_call 25; first | (with_reducible exact After.calls (join_c h1 _)) | (with_reducible exact After.calls (join_c h2 _)) | (with_reducible exact After.calls (join_c h3 _)) | (with_reducible exact After.calls (join_c h4 _)) | (with_reducible exact After.calls (join_c h5 _)) | (with_reducible exact After.calls (join_c h6 _))) | (go_at_call 23; first | (with_reducible exact After.calls (compare_c h7 _)) | (with_reducible exact After.calls (compare_c h8 _)) | (with_reducible exact After.calls (compare_c h9 _)) | (with_reducible exact After.calls (compare_c h10 _))) | (go_at_call 18; exact After.calls (may_c hm _)) | (go_at_call 19; exact After.calls (awake_c _))))
  refine wpQuiet_nil (after_out ?_)
  intro w2 hb2
  obtain ⟨hc2, hf2⟩ := bcell hb2
  go_wp2_with fail
  refine wp_region_since (w1.alloc (Obj.cells #[Value.int IntKind.i64 a0, Value.int IntKind.i64 a1] 35)) hb2 (by kernel_rfl) (by kernel_rfl) (fun hne => ?_)
  repeat (go_big_quiet_step (first | (go_at_call 25; first | (with_reducible exact After.calls (join_c h1 _)) | (with_reducible exact After.calls (join_c h2 _)) | (with_reducible exact After.calls (join_c h3 _)) | (with_reducible exact After.calls (join_c h4 _)) | (with_reducible exact After.calls (join_c h5 _)) | (with_reducible exact After.calls (join_c h6 _))) | (go_at_call 23; first | (with_reducible exact After.calls (compare_c h7 _)) | (with_reducible exact After.calls (compare_c h8 _)) | (with_reducible exact After.calls (compare_c h9 _)) | (with_reducible exact After.calls (compare_c h10 _))) | (go_at_call 18; exact After.calls (may_c hm _)) | (go_at_call 19; exact After.calls (awake_c _))))
  refine wpQuiet_nil (after_out ?_)
  clear hc2 hf2 hb2
  intro w3 hb3
  obtain ⟨hc3, hf3⟩ := bcell hb3
  go_wp2_with fail
  refine (flip_c hf _).mono ?_
  rintro e' w4 ⟨rfl, hb4⟩
  have hb40 := hb3.trans (hb4.mono hb3.size)
  clear hc3 hf3 hb4 hb3
  obtain ⟨hc4, hf4⟩ := bcell hb40
  have hz40 : w.heap.size < w4.heap.size := by have := hb40.size; simp at this; omega
  have hz41 : w.heap.size + 1 < w4.heap.size := by have := hb40.size; simp at this; omega
  have hz42 : w.heap.size + 2 < w4.heap.size := by have := hb40.size; simp at this; omega
  have hz43 : w1.heap.size < w4.heap.size := by have := hb40.size; simp at this; omega
  go_wp2_with fail
  refine wp_region_since (w4.alloc (Obj.cells #[Value.int IntKind.i64 (0), Value.int IntKind.i64 (0)] 35)) (Below.refl _ _) (by kernel_rfl) (by kernel_rfl) (fun hne => ?_)
  have hN4 := @After.cell (w4.alloc (Obj.cells #[Value.int IntKind.i64 (0), Value.int IntKind.i64 (0)] 35))
  repeat (go_big_quiet_step (first | (go_at_call 25; first | (with_reducible exact After.calls (join_c h1 _)) | (with_reducible exact After.calls (join_c h2 _)) | (with_reducible exact After.calls (join_c h3 _)) | (with_reducible exact After.calls (join_c h4 _)) | (with_reducible exact After.calls (join_c h5 _)) | (with_reducible exact After.calls (join_c h6 _))) | (go_at_call 23; first | (with_reducible exact After.calls (compare_c h7 _)) | (with_reducible exact After.calls (compare_c h8 _)) | (with_reducible exact After.calls (compare_c h9 _)) | (with_reducible exact After.calls (compare_c h10 _))) | (go_at_call 18; exact After.calls (may_c hm _)) | (go_at_call 19; exact After.calls (awake_c _))))
  refine wpQuiet_nil (after_out ?_)
  intro w5 hb5
  go_wp2_with fail
  go_ret
  refine ⟨rfl, ?_⟩
  have q1 : Below w.heap.size w w4 := hS0.trans (hb40.mono hS0.size)
  exact (q1.alloc q1.size _).trans (hb5.mono (by have := q1.size; simp; omega))
set_option maxHeartbeats 2000000 in
theorem case_eq_ok (a0 a1 c0 c1 t y0 y1 : Int) (w : World) (h1 : Hid (joE a0 a1 a0 a1 = (a0, a1))) (h2 : Hid (joE a0 a1 a0 a1 = (a0, a1))) (h3 : Hid (joE a0 a1 c0 c1 = (y0, y1))) (h4 : Hid (joE a0 a1 c0 c1 = (y0, y1))) (h5 : Hid (joE a0 a1 y0 y1 = (y0, y1))) (h6 : Hid (joE a0 a1 a0 a1 = (a0, a1))) (h7 : Hid (cmpE a0 a1 a0 a1 = 0)) (h8 : Hid (cmpE a0 a1 a0 a1 = 0)) (h9 : Hid (cmpE a0 a1 a0 a1 = 0)) (h10 : Hid (cmpE a0 a1 a0 a1 = 0)) (ha0 : 0 ≤ a0) (ha1 : a0 ≤ 1000000) (hf : Hid (entry_Flip.f 1 a0 a1 t = some (a0 + 1, t, 0))) (hm : Hid (mayE (a0 + 1) t = true)) (h11 : Hid (joE a0 a1 (a0 + 1) t = (a0 + 1, t))) (h12 : Hid (cmpE (a0 + 1) t a0 a1 = 1)) :
    Calls Try.prog 8 #[.agg #[.int .i64 a0, .int .i64 a1], .agg #[.int .i64 a0, .int .i64 a1], .agg #[.int .i64 c0, .int .i64 c1], .int .i64 t] w fun e w' => e = .returned (.bool true) ∧ Below w.heap.size w w' := by
  go_enter Try.func8, Try.ntmps8
  go_wp2_with fail
  refine (join_c h1 _).mono ?_
  rintro e w1 ⟨rfl, hb1⟩
  have hS0 : Below w.heap.size w (w1.alloc (Obj.cells #[Value.int IntKind.i64 a0, Value.int IntKind.i64 a1] 35)) := ((((Below.refl _ _).alloc (Nat.le_refl _) _).alloc (by simp) _).alloc (by simp; omega) _ |>.trans (hb1.mono (by simp; omega))).alloc (by have := hb1.size; simp at this; omega) _
  obtain ⟨hc1, hf1⟩ := bcell hb1
  have hz0 : w.heap.size < w1.heap.size := by have := hb1.size; simp at this; omega
  have hz1 : w.heap.size + 1 < w1.heap.size := by have := hb1.size; simp at this; omega
  have hz2 : w.heap.size + 2 < w1.heap.size := by have := hb1.size; simp at this; omega
  go_wp2_with fail
  refine wp_region_since (w1.alloc (Obj.cells #[Value.int IntKind.i64 a0, Value.int IntKind.i64 a1] 35)) (Below.refl _ _) (by kernel_rfl) (by kernel_rfl) (fun hne => ?_)
  have hN := @After.cell (w1.alloc (Obj.cells #[Value.int IntKind.i64 a0, Value.int IntKind.i64 a1] 35))
  repeat (go_big_quiet_step (first | (go_at_call 25; first | (with_reducible exact After.calls (join_c h1 _)) | (with_reducible exact After.calls (join_c h2 _)) | (with_reducible exact After.calls (join_c h3 _)) | (with_reducible exact After.calls (join_c h4 _)) | (with_reducible exact After.calls (join_c h5 _)) | (with_reducible exact After.calls (join_c h6 _)) | (with_reducible exact After.calls (join_c h11 _))) | (go_at_call 23; first | (with_reducible exact After.calls (compare_c h7 _)) | (with_reducible exact After.calls (compare_c h8 _)) | (with_reducible exact After.calls (compare_c h9 _)) | (with_reducible exact After.calls (compare_c h10 _)) | (with_reducible exact After.calls (compare_c h12 _))) | (go_at_call 18; exact After.calls (may_c hm _)) | (go_at_call 19; exact After.calls (awake_c _))))
  refine wpQuiet_nil (after_out ?_)
  intro w2 hb2
  obtain ⟨hc2, hf2⟩ := bcell hb2
  go_wp2_with fail
  refine wp_region_since (w1.alloc (Obj.cells #[Value.int IntKind.i64 a0, Value.int IntKind.i64 a1] 35)) hb2 (by kernel_rfl) (by kernel_rfl) (fun hne => ?_)
  repeat (go_big_quiet_step (first | (go_at_call 25; first | (with_reducible exact After.calls (join_c h1 _)) | (with_reducible exact After.calls (join_c h2 _)) | (with_reducible exact After.calls (join_c h3 _)) | (with_reducible exact After.calls (join_c h4 _)) | (with_reducible exact After.calls (join_c h5 _)) | (with_reducible exact After.calls (join_c h6 _)) | (with_reducible exact After.calls (join_c h11 _))) | (go_at_call 23; first | (with_reducible exact After.calls (compare_c h7 _)) | (with_reducible exact After.calls (compare_c h8 _)) | (with_reducible exact After.calls (compare_c h9 _)) | (with_reducible exact After.calls (compare_c h10 _)) | (with_reducible exact After.calls (compare_c h12 _))) | (go_at_call 18; exact After.calls (may_c hm _)) | (go_at_call 19; exact After.calls (awake_c _))))
  refine wpQuiet_nil (after_out ?_)
  clear hc2 hf2 hb2
  intro w3 hb3
  obtain ⟨hc3, hf3⟩ := bcell hb3
  go_wp2_with fail
  refine (flip_c hf _).mono ?_
  rintro e' w4 ⟨rfl, hb4⟩
  have hb40 := hb3.trans (hb4.mono hb3.size)
  clear hc3 hf3 hb4 hb3
  obtain ⟨hc4, hf4⟩ := bcell hb40
  have hz40 : w.heap.size < w4.heap.size := by have := hb40.size; simp at this; omega
  have hz41 : w.heap.size + 1 < w4.heap.size := by have := hb40.size; simp at this; omega
  have hz42 : w.heap.size + 2 < w4.heap.size := by have := hb40.size; simp at this; omega
  have hz43 : w1.heap.size < w4.heap.size := by have := hb40.size; simp at this; omega
  go_wp2_with fail
  refine wp_region_since (w4.alloc (Obj.cells #[Value.int IntKind.i64 (a0 + 1), Value.int IntKind.i64 (t)] 35)) (Below.refl _ _) (by kernel_rfl) (by kernel_rfl) (fun hne => ?_)
  have hN4 := @After.cell (w4.alloc (Obj.cells #[Value.int IntKind.i64 (a0 + 1), Value.int IntKind.i64 (t)] 35))
  repeat (go_big_quiet_step (first | (go_at_call 25; first | (with_reducible exact After.calls (join_c h1 _)) | (with_reducible exact After.calls (join_c h2 _)) | (with_reducible exact After.calls (join_c h3 _)) | (with_reducible exact After.calls (join_c h4 _)) | (with_reducible exact After.calls (join_c h5 _)) | (with_reducible exact After.calls (join_c h6 _)) | (with_reducible exact After.calls (join_c h11 _))) | (go_at_call 23; first | (with_reducible exact After.calls (compare_c h7 _)) | (with_reducible exact After.calls (compare_c h8 _)) | (with_reducible exact After.calls (compare_c h9 _)) | (with_reducible exact After.calls (compare_c h10 _)) | (with_reducible exact After.calls (compare_c h12 _))) | (go_at_call 18; exact After.calls (may_c hm _)) | (go_at_call 19; exact After.calls (awake_c _))))
  refine wpQuiet_nil (after_out ?_)
  intro w5 hb5
  go_wp2_with fail
  go_ret
  refine ⟨rfl, ?_⟩
  have q1 : Below w.heap.size w w4 := hS0.trans (hb40.mono hS0.size)
  exact (q1.alloc q1.size _).trans (hb5.mono (by have := q1.size; simp; omega))
set_option maxHeartbeats 2000000 in
theorem case_ge_err (a0 a1 b0 b1 c0 c1 t y0 y1 z0 z1 e : Int) (w : World) (h1 : Hid (joE a0 a1 b0 b1 = (a0, a1))) (h2 : Hid (joE b0 b1 a0 a1 = (a0, a1))) (h3 : Hid (joE a0 a1 c0 c1 = (y0, y1))) (h4 : Hid (joE b0 b1 c0 c1 = (z0, z1))) (h5 : Hid (joE a0 a1 z0 z1 = (y0, y1))) (h6 : Hid (joE a0 a1 a0 a1 = (a0, a1))) (h7 : Hid (cmpE a0 a1 a0 a1 = 0)) (h8 : Hid (cmpE b0 b1 a0 a1 = -1)) (h9 : Hid (cmpE a0 a1 b0 b1 = 1)) (h10 : Hid (cmpE b0 b1 a0 a1 = -1)) (ht0 : (a0 == b0) = false) (he : (e == 0) = false) (he2 : (e != 0) = true) (hf : Hid (entry_Flip.f 1 a0 a1 t = some (0, 0, e))) (hm : Hid (mayE 0 0 = true)) :
    Calls Try.prog 8 #[.agg #[.int .i64 a0, .int .i64 a1], .agg #[.int .i64 b0, .int .i64 b1], .agg #[.int .i64 c0, .int .i64 c1], .int .i64 t] w fun e w' => e = .returned (.bool true) ∧ Below w.heap.size w w' := by
  go_enter Try.func8, Try.ntmps8
  go_wp2_with fail
  refine (join_c h1 _).mono ?_
  rintro e w1 ⟨rfl, hb1⟩
  have hS0 : Below w.heap.size w (w1.alloc (Obj.cells #[Value.int IntKind.i64 a0, Value.int IntKind.i64 a1] 35)) := ((((Below.refl _ _).alloc (Nat.le_refl _) _).alloc (by simp) _).alloc (by simp; omega) _ |>.trans (hb1.mono (by simp; omega))).alloc (by have := hb1.size; simp at this; omega) _
  obtain ⟨hc1, hf1⟩ := bcell hb1
  have hz0 : w.heap.size < w1.heap.size := by have := hb1.size; simp at this; omega
  have hz1 : w.heap.size + 1 < w1.heap.size := by have := hb1.size; simp at this; omega
  have hz2 : w.heap.size + 2 < w1.heap.size := by have := hb1.size; simp at this; omega
  go_wp2_with fail
  refine wp_region_since (w1.alloc (Obj.cells #[Value.int IntKind.i64 a0, Value.int IntKind.i64 a1] 35)) (Below.refl _ _) (by kernel_rfl) (by kernel_rfl) (fun hne => ?_)
  have hN := @After.cell (w1.alloc (Obj.cells #[Value.int IntKind.i64 a0, Value.int IntKind.i64 a1] 35))
  repeat (go_big_quiet_step (first | (go_at_call 25; first | (with_reducible exact After.calls (join_c h1 _)) | (with_reducible exact After.calls (join_c h2 _)) | (with_reducible exact After.calls (join_c h3 _)) | (with_reducible exact After.calls (join_c h4 _)) | (with_reducible exact After.calls (join_c h5 _)) | (with_reducible exact After.calls (join_c h6 _))) | (go_at_call 23; first | (with_reducible exact After.calls (compare_c h7 _)) | (with_reducible exact After.calls (compare_c h8 _)) | (with_reducible exact After.calls (compare_c h9 _)) | (with_reducible exact After.calls (compare_c h10 _))) | (go_at_call 18; exact After.calls (may_c hm _)) | (go_at_call 19; exact After.calls (awake_c _))))
  refine wpQuiet_nil (after_out ?_)
  intro w2 hb2
  obtain ⟨hc2, hf2⟩ := bcell hb2
  go_wp2_with fail
  refine wp_region_since (w1.alloc (Obj.cells #[Value.int IntKind.i64 a0, Value.int IntKind.i64 a1] 35)) hb2 (by kernel_rfl) (by kernel_rfl) (fun hne => ?_)
  repeat (go_big_quiet_step (first | (go_at_call 25; first | (with_reducible exact After.calls (join_c h1 _)) | (with_reducible exact After.calls (join_c h2 _)) | (with_reducible exact After.calls (join_c h3 _)) | (with_reducible exact After.calls (join_c h4 _)) | (with_reducible exact After.calls (join_c h5 _)) | (with_reducible exact After.calls (join_c h6 _))) | (go_at_call 23; first | (with_reducible exact After.calls (compare_c h7 _)) | (with_reducible exact After.calls (compare_c h8 _)) | (with_reducible exact After.calls (compare_c h9 _)) | (with_reducible exact After.calls (compare_c h10 _))) | (go_at_call 18; exact After.calls (may_c hm _)) | (go_at_call 19; exact After.calls (awake_c _))))
  refine wpQuiet_nil (after_out ?_)
  clear hc2 hf2 hb2
  intro w3 hb3
  obtain ⟨hc3, hf3⟩ := bcell hb3
  go_wp2_with fail
  refine (flip_c hf _).mono ?_
  rintro e' w4 ⟨rfl, hb4⟩
  have hb40 := hb3.trans (hb4.mono hb3.size)
  clear hc3 hf3 hb4 hb3
  obtain ⟨hc4, hf4⟩ := bcell hb40
  have hz40 : w.heap.size < w4.heap.size := by have := hb40.size; simp at this; omega
  have hz41 : w.heap.size + 1 < w4.heap.size := by have := hb40.size; simp at this; omega
  have hz42 : w.heap.size + 2 < w4.heap.size := by have := hb40.size; simp at this; omega
  have hz43 : w1.heap.size < w4.heap.size := by have := hb40.size; simp at this; omega
  go_wp2_with fail
  refine wp_region_since (w4.alloc (Obj.cells #[Value.int IntKind.i64 (0), Value.int IntKind.i64 (0)] 35)) (Below.refl _ _) (by kernel_rfl) (by kernel_rfl) (fun hne => ?_)
  have hN4 := @After.cell (w4.alloc (Obj.cells #[Value.int IntKind.i64 (0), Value.int IntKind.i64 (0)] 35))
  repeat (go_big_quiet_step (first | (go_at_call 25; first | (with_reducible exact After.calls (join_c h1 _)) | (with_reducible exact After.calls (join_c h2 _)) | (with_reducible exact After.calls (join_c h3 _)) | (with_reducible exact After.calls (join_c h4 _)) | (with_reducible exact After.calls (join_c h5 _)) | (with_reducible exact After.calls (join_c h6 _))) | (go_at_call 23; first | (with_reducible exact After.calls (compare_c h7 _)) | (with_reducible exact After.calls (compare_c h8 _)) | (with_reducible exact After.calls (compare_c h9 _)) | (with_reducible exact After.calls (compare_c h10 _))) | (go_at_call 18; exact After.calls (may_c hm _)) | (go_at_call 19; exact After.calls (awake_c _))))
  refine wpQuiet_nil (after_out ?_)
  intro w5 hb5
  go_wp2_with fail
  go_ret
  refine ⟨rfl, ?_⟩
  have q1 : Below w.heap.size w w4 := hS0.trans (hb40.mono hS0.size)
  exact (q1.alloc q1.size _).trans (hb5.mono (by have := q1.size; simp; omega))
set_option maxHeartbeats 2000000 in
theorem case_ge_ok (a0 a1 b0 b1 c0 c1 t y0 y1 z0 z1 : Int) (w : World) (h1 : Hid (joE a0 a1 b0 b1 = (a0, a1))) (h2 : Hid (joE b0 b1 a0 a1 = (a0, a1))) (h3 : Hid (joE a0 a1 c0 c1 = (y0, y1))) (h4 : Hid (joE b0 b1 c0 c1 = (z0, z1))) (h5 : Hid (joE a0 a1 z0 z1 = (y0, y1))) (h6 : Hid (joE a0 a1 a0 a1 = (a0, a1))) (h7 : Hid (cmpE a0 a1 a0 a1 = 0)) (h8 : Hid (cmpE b0 b1 a0 a1 = -1)) (h9 : Hid (cmpE a0 a1 b0 b1 = 1)) (h10 : Hid (cmpE b0 b1 a0 a1 = -1)) (ht0 : (a0 == b0) = false) (ha0 : 0 ≤ a0) (ha1 : a0 ≤ 1000000) (hf : Hid (entry_Flip.f 1 a0 a1 t = some (a0 + 1, t, 0))) (hm : Hid (mayE (a0 + 1) t = true)) (h11 : Hid (joE a0 a1 (a0 + 1) t = (a0 + 1, t))) (h12 : Hid (cmpE (a0 + 1) t a0 a1 = 1)) :
    Calls Try.prog 8 #[.agg #[.int .i64 a0, .int .i64 a1], .agg #[.int .i64 b0, .int .i64 b1], .agg #[.int .i64 c0, .int .i64 c1], .int .i64 t] w fun e w' => e = .returned (.bool true) ∧ Below w.heap.size w w' := by
  go_enter Try.func8, Try.ntmps8
  go_wp2_with fail
  refine (join_c h1 _).mono ?_
  rintro e w1 ⟨rfl, hb1⟩
  have hS0 : Below w.heap.size w (w1.alloc (Obj.cells #[Value.int IntKind.i64 a0, Value.int IntKind.i64 a1] 35)) := ((((Below.refl _ _).alloc (Nat.le_refl _) _).alloc (by simp) _).alloc (by simp; omega) _ |>.trans (hb1.mono (by simp; omega))).alloc (by have := hb1.size; simp at this; omega) _
  obtain ⟨hc1, hf1⟩ := bcell hb1
  have hz0 : w.heap.size < w1.heap.size := by have := hb1.size; simp at this; omega
  have hz1 : w.heap.size + 1 < w1.heap.size := by have := hb1.size; simp at this; omega
  have hz2 : w.heap.size + 2 < w1.heap.size := by have := hb1.size; simp at this; omega
  go_wp2_with fail
  refine wp_region_since (w1.alloc (Obj.cells #[Value.int IntKind.i64 a0, Value.int IntKind.i64 a1] 35)) (Below.refl _ _) (by kernel_rfl) (by kernel_rfl) (fun hne => ?_)
  have hN := @After.cell (w1.alloc (Obj.cells #[Value.int IntKind.i64 a0, Value.int IntKind.i64 a1] 35))
  repeat (go_big_quiet_step (first | (go_at_call 25; first | (with_reducible exact After.calls (join_c h1 _)) | (with_reducible exact After.calls (join_c h2 _)) | (with_reducible exact After.calls (join_c h3 _)) | (with_reducible exact After.calls (join_c h4 _)) | (with_reducible exact After.calls (join_c h5 _)) | (with_reducible exact After.calls (join_c h6 _)) | (with_reducible exact After.calls (join_c h11 _))) | (go_at_call 23; first | (with_reducible exact After.calls (compare_c h7 _)) | (with_reducible exact After.calls (compare_c h8 _)) | (with_reducible exact After.calls (compare_c h9 _)) | (with_reducible exact After.calls (compare_c h10 _)) | (with_reducible exact After.calls (compare_c h12 _))) | (go_at_call 18; exact After.calls (may_c hm _)) | (go_at_call 19; exact After.calls (awake_c _))))
  refine wpQuiet_nil (after_out ?_)
  intro w2 hb2
  obtain ⟨hc2, hf2⟩ := bcell hb2
  go_wp2_with fail
  refine wp_region_since (w1.alloc (Obj.cells #[Value.int IntKind.i64 a0, Value.int IntKind.i64 a1] 35)) hb2 (by kernel_rfl) (by kernel_rfl) (fun hne => ?_)
  repeat (go_big_quiet_step (first | (go_at_call 25; first | (with_reducible exact After.calls (join_c h1 _)) | (with_reducible exact After.calls (join_c h2 _)) | (with_reducible exact After.calls (join_c h3 _)) | (with_reducible exact After.calls (join_c h4 _)) | (with_reducible exact After.calls (join_c h5 _)) | (with_reducible exact After.calls (join_c h6 _)) | (with_reducible exact After.calls (join_c h11 _))) | (go_at_call 23; first | (with_reducible exact After.calls (compare_c h7 _)) | (with_reducible exact After.calls (compare_c h8 _)) | (with_reducible exact After.calls (compare_c h9 _)) | (with_reducible exact After.calls (compare_c h10 _)) | (with_reducible exact After.calls (compare_c h12 _))) | (go_at_call 18; exact After.calls (may_c hm _)) | (go_at_call 19; exact After.calls (awake_c _))))
  refine wpQuiet_nil (after_out ?_)
  clear hc2 hf2 hb2
  intro w3 hb3
  obtain ⟨hc3, hf3⟩ := bcell hb3
  go_wp2_with fail
  refine (flip_c hf _).mono ?_
  rintro e' w4 ⟨rfl, hb4⟩
  have hb40 := hb3.trans (hb4.mono hb3.size)
  clear hc3 hf3 hb4 hb3
  obtain ⟨hc4, hf4⟩ := bcell hb40
  have hz40 : w.heap.size < w4.heap.size := by have := hb40.size; simp at this; omega
  have hz41 : w.heap.size + 1 < w4.heap.size := by have := hb40.size; simp at this; omega
  have hz42 : w.heap.size + 2 < w4.heap.size := by have := hb40.size; simp at this; omega
  have hz43 : w1.heap.size < w4.heap.size := by have := hb40.size; simp at this; omega
  go_wp2_with fail
  refine wp_region_since (w4.alloc (Obj.cells #[Value.int IntKind.i64 (a0 + 1), Value.int IntKind.i64 (t)] 35)) (Below.refl _ _) (by kernel_rfl) (by kernel_rfl) (fun hne => ?_)
  have hN4 := @After.cell (w4.alloc (Obj.cells #[Value.int IntKind.i64 (a0 + 1), Value.int IntKind.i64 (t)] 35))
  repeat (go_big_quiet_step (first | (go_at_call 25; first | (with_reducible exact After.calls (join_c h1 _)) | (with_reducible exact After.calls (join_c h2 _)) | (with_reducible exact After.calls (join_c h3 _)) | (with_reducible exact After.calls (join_c h4 _)) | (with_reducible exact After.calls (join_c h5 _)) | (with_reducible exact After.calls (join_c h6 _)) | (with_reducible exact After.calls (join_c h11 _))) | (go_at_call 23; first | (with_reducible exact After.calls (compare_c h7 _)) | (with_reducible exact After.calls (compare_c h8 _)) | (with_reducible exact After.calls (compare_c h9 _)) | (with_reducible exact After.calls (compare_c h10 _)) | (with_reducible exact After.calls (compare_c h12 _))) | (go_at_call 18; exact After.calls (may_c hm _)) | (go_at_call 19; exact After.calls (awake_c _))))
  refine wpQuiet_nil (after_out ?_)
  intro w5 hb5
  go_wp2_with fail
  go_ret
  refine ⟨rfl, ?_⟩
  have q1 : Below w.heap.size w w4 := hS0.trans (hb40.mono hS0.size)
  exact (q1.alloc q1.size _).trans (hb5.mono (by have := q1.size; simp; omega))
set_option maxHeartbeats 2000000 in
theorem case_ge1_err (a0 a1 b1 c0 c1 t y0 y1 z0 z1 e : Int) (w : World) (h1 : Hid (joE a0 a1 a0 b1 = (a0, a1))) (h2 : Hid (joE a0 b1 a0 a1 = (a0, a1))) (h3 : Hid (joE a0 a1 c0 c1 = (y0, y1))) (h4 : Hid (joE a0 b1 c0 c1 = (z0, z1))) (h5 : Hid (joE a0 a1 z0 z1 = (y0, y1))) (h6 : Hid (joE a0 a1 a0 a1 = (a0, a1))) (h7 : Hid (cmpE a0 a1 a0 a1 = 0)) (h8 : Hid (cmpE a0 b1 a0 a1 = -1)) (h9 : Hid (cmpE a0 a1 a0 b1 = 1)) (h10 : Hid (cmpE a0 b1 a0 a1 = -1)) (ht0 : (a1 == b1) = false) (he : (e == 0) = false) (he2 : (e != 0) = true) (hf : Hid (entry_Flip.f 1 a0 a1 t = some (0, 0, e))) (hm : Hid (mayE 0 0 = true)) :
    Calls Try.prog 8 #[.agg #[.int .i64 a0, .int .i64 a1], .agg #[.int .i64 a0, .int .i64 b1], .agg #[.int .i64 c0, .int .i64 c1], .int .i64 t] w fun e w' => e = .returned (.bool true) ∧ Below w.heap.size w w' := by
  go_enter Try.func8, Try.ntmps8
  go_wp2_with fail
  refine (join_c h1 _).mono ?_
  rintro e w1 ⟨rfl, hb1⟩
  have hS0 : Below w.heap.size w (w1.alloc (Obj.cells #[Value.int IntKind.i64 a0, Value.int IntKind.i64 a1] 35)) := ((((Below.refl _ _).alloc (Nat.le_refl _) _).alloc (by simp) _).alloc (by simp; omega) _ |>.trans (hb1.mono (by simp; omega))).alloc (by have := hb1.size; simp at this; omega) _
  obtain ⟨hc1, hf1⟩ := bcell hb1
  have hz0 : w.heap.size < w1.heap.size := by have := hb1.size; simp at this; omega
  have hz1 : w.heap.size + 1 < w1.heap.size := by have := hb1.size; simp at this; omega
  have hz2 : w.heap.size + 2 < w1.heap.size := by have := hb1.size; simp at this; omega
  go_wp2_with fail
  refine wp_region_since (w1.alloc (Obj.cells #[Value.int IntKind.i64 a0, Value.int IntKind.i64 a1] 35)) (Below.refl _ _) (by kernel_rfl) (by kernel_rfl) (fun hne => ?_)
  have hN := @After.cell (w1.alloc (Obj.cells #[Value.int IntKind.i64 a0, Value.int IntKind.i64 a1] 35))
  repeat (go_big_quiet_step (first | (go_at_call 25; first | (with_reducible exact After.calls (join_c h1 _)) | (with_reducible exact After.calls (join_c h2 _)) | (with_reducible exact After.calls (join_c h3 _)) | (with_reducible exact After.calls (join_c h4 _)) | (with_reducible exact After.calls (join_c h5 _)) | (with_reducible exact After.calls (join_c h6 _))) | (go_at_call 23; first | (with_reducible exact After.calls (compare_c h7 _)) | (with_reducible exact After.calls (compare_c h8 _)) | (with_reducible exact After.calls (compare_c h9 _)) | (with_reducible exact After.calls (compare_c h10 _))) | (go_at_call 18; exact After.calls (may_c hm _)) | (go_at_call 19; exact After.calls (awake_c _))))
  refine wpQuiet_nil (after_out ?_)
  intro w2 hb2
  obtain ⟨hc2, hf2⟩ := bcell hb2
  go_wp2_with fail
  refine wp_region_since (w1.alloc (Obj.cells #[Value.int IntKind.i64 a0, Value.int IntKind.i64 a1] 35)) hb2 (by kernel_rfl) (by kernel_rfl) (fun hne => ?_)
  repeat (go_big_quiet_step (first | (go_at_call 25; first | (with_reducible exact After.calls (join_c h1 _)) | (with_reducible exact After.calls (join_c h2 _)) | (with_reducible exact After.calls (join_c h3 _)) | (with_reducible exact After.calls (join_c h4 _)) | (with_reducible exact After.calls (join_c h5 _)) | (with_reducible exact After.calls (join_c h6 _))) | (go_at_call 23; first | (with_reducible exact After.calls (compare_c h7 _)) | (with_reducible exact After.calls (compare_c h8 _)) | (with_reducible exact After.calls (compare_c h9 _)) | (with_reducible exact After.calls (compare_c h10 _))) | (go_at_call 18; exact After.calls (may_c hm _)) | (go_at_call 19; exact After.calls (awake_c _))))
  refine wpQuiet_nil (after_out ?_)
  clear hc2 hf2 hb2
  intro w3 hb3
  obtain ⟨hc3, hf3⟩ := bcell hb3
  go_wp2_with fail
  refine (flip_c hf _).mono ?_
  rintro e' w4 ⟨rfl, hb4⟩
  have hb40 := hb3.trans (hb4.mono hb3.size)
  clear hc3 hf3 hb4 hb3
  obtain ⟨hc4, hf4⟩ := bcell hb40
  have hz40 : w.heap.size < w4.heap.size := by have := hb40.size; simp at this; omega
  have hz41 : w.heap.size + 1 < w4.heap.size := by have := hb40.size; simp at this; omega
  have hz42 : w.heap.size + 2 < w4.heap.size := by have := hb40.size; simp at this; omega
  have hz43 : w1.heap.size < w4.heap.size := by have := hb40.size; simp at this; omega
  go_wp2_with fail
  refine wp_region_since (w4.alloc (Obj.cells #[Value.int IntKind.i64 (0), Value.int IntKind.i64 (0)] 35)) (Below.refl _ _) (by kernel_rfl) (by kernel_rfl) (fun hne => ?_)
  have hN4 := @After.cell (w4.alloc (Obj.cells #[Value.int IntKind.i64 (0), Value.int IntKind.i64 (0)] 35))
  repeat (go_big_quiet_step (first | (go_at_call 25; first | (with_reducible exact After.calls (join_c h1 _)) | (with_reducible exact After.calls (join_c h2 _)) | (with_reducible exact After.calls (join_c h3 _)) | (with_reducible exact After.calls (join_c h4 _)) | (with_reducible exact After.calls (join_c h5 _)) | (with_reducible exact After.calls (join_c h6 _))) | (go_at_call 23; first | (with_reducible exact After.calls (compare_c h7 _)) | (with_reducible exact After.calls (compare_c h8 _)) | (with_reducible exact After.calls (compare_c h9 _)) | (with_reducible exact After.calls (compare_c h10 _))) | (go_at_call 18; exact After.calls (may_c hm _)) | (go_at_call 19; exact After.calls (awake_c _))))
  refine wpQuiet_nil (after_out ?_)
  intro w5 hb5
  go_wp2_with fail
  go_ret
  refine ⟨rfl, ?_⟩
  have q1 : Below w.heap.size w w4 := hS0.trans (hb40.mono hS0.size)
  exact (q1.alloc q1.size _).trans (hb5.mono (by have := q1.size; simp; omega))
set_option maxHeartbeats 2000000 in
theorem case_ge1_ok (a0 a1 b1 c0 c1 t y0 y1 z0 z1 : Int) (w : World) (h1 : Hid (joE a0 a1 a0 b1 = (a0, a1))) (h2 : Hid (joE a0 b1 a0 a1 = (a0, a1))) (h3 : Hid (joE a0 a1 c0 c1 = (y0, y1))) (h4 : Hid (joE a0 b1 c0 c1 = (z0, z1))) (h5 : Hid (joE a0 a1 z0 z1 = (y0, y1))) (h6 : Hid (joE a0 a1 a0 a1 = (a0, a1))) (h7 : Hid (cmpE a0 a1 a0 a1 = 0)) (h8 : Hid (cmpE a0 b1 a0 a1 = -1)) (h9 : Hid (cmpE a0 a1 a0 b1 = 1)) (h10 : Hid (cmpE a0 b1 a0 a1 = -1)) (ht0 : (a1 == b1) = false) (ha0 : 0 ≤ a0) (ha1 : a0 ≤ 1000000) (hf : Hid (entry_Flip.f 1 a0 a1 t = some (a0 + 1, t, 0))) (hm : Hid (mayE (a0 + 1) t = true)) (h11 : Hid (joE a0 a1 (a0 + 1) t = (a0 + 1, t))) (h12 : Hid (cmpE (a0 + 1) t a0 a1 = 1)) :
    Calls Try.prog 8 #[.agg #[.int .i64 a0, .int .i64 a1], .agg #[.int .i64 a0, .int .i64 b1], .agg #[.int .i64 c0, .int .i64 c1], .int .i64 t] w fun e w' => e = .returned (.bool true) ∧ Below w.heap.size w w' := by
  go_enter Try.func8, Try.ntmps8
  go_wp2_with fail
  refine (join_c h1 _).mono ?_
  rintro e w1 ⟨rfl, hb1⟩
  have hS0 : Below w.heap.size w (w1.alloc (Obj.cells #[Value.int IntKind.i64 a0, Value.int IntKind.i64 a1] 35)) := ((((Below.refl _ _).alloc (Nat.le_refl _) _).alloc (by simp) _).alloc (by simp; omega) _ |>.trans (hb1.mono (by simp; omega))).alloc (by have := hb1.size; simp at this; omega) _
  obtain ⟨hc1, hf1⟩ := bcell hb1
  have hz0 : w.heap.size < w1.heap.size := by have := hb1.size; simp at this; omega
  have hz1 : w.heap.size + 1 < w1.heap.size := by have := hb1.size; simp at this; omega
  have hz2 : w.heap.size + 2 < w1.heap.size := by have := hb1.size; simp at this; omega
  go_wp2_with fail
  refine wp_region_since (w1.alloc (Obj.cells #[Value.int IntKind.i64 a0, Value.int IntKind.i64 a1] 35)) (Below.refl _ _) (by kernel_rfl) (by kernel_rfl) (fun hne => ?_)
  have hN := @After.cell (w1.alloc (Obj.cells #[Value.int IntKind.i64 a0, Value.int IntKind.i64 a1] 35))
  repeat (go_big_quiet_step (first | (go_at_call 25; first | (with_reducible exact After.calls (join_c h1 _)) | (with_reducible exact After.calls (join_c h2 _)) | (with_reducible exact After.calls (join_c h3 _)) | (with_reducible exact After.calls (join_c h4 _)) | (with_reducible exact After.calls (join_c h5 _)) | (with_reducible exact After.calls (join_c h6 _)) | (with_reducible exact After.calls (join_c h11 _))) | (go_at_call 23; first | (with_reducible exact After.calls (compare_c h7 _)) | (with_reducible exact After.calls (compare_c h8 _)) | (with_reducible exact After.calls (compare_c h9 _)) | (with_reducible exact After.calls (compare_c h10 _)) | (with_reducible exact After.calls (compare_c h12 _))) | (go_at_call 18; exact After.calls (may_c hm _)) | (go_at_call 19; exact After.calls (awake_c _))))
  refine wpQuiet_nil (after_out ?_)
  intro w2 hb2
  obtain ⟨hc2, hf2⟩ := bcell hb2
  go_wp2_with fail
  refine wp_region_since (w1.alloc (Obj.cells #[Value.int IntKind.i64 a0, Value.int IntKind.i64 a1] 35)) hb2 (by kernel_rfl) (by kernel_rfl) (fun hne => ?_)
  repeat (go_big_quiet_step (first | (go_at_call 25; first | (with_reducible exact After.calls (join_c h1 _)) | (with_reducible exact After.calls (join_c h2 _)) | (with_reducible exact After.calls (join_c h3 _)) | (with_reducible exact After.calls (join_c h4 _)) | (with_reducible exact After.calls (join_c h5 _)) | (with_reducible exact After.calls (join_c h6 _)) | (with_reducible exact After.calls (join_c h11 _))) | (go_at_call 23; first | (with_reducible exact After.calls (compare_c h7 _)) | (with_reducible exact After.calls (compare_c h8 _)) | (with_reducible exact After.calls (compare_c h9 _)) | (with_reducible exact After.calls (compare_c h10 _)) | (with_reducible exact After.calls (compare_c h12 _))) | (go_at_call 18; exact After.calls (may_c hm _)) | (go_at_call 19; exact After.calls (awake_c _))))
  refine wpQuiet_nil (after_out ?_)
  clear hc2 hf2 hb2
  intro w3 hb3
  obtain ⟨hc3, hf3⟩ := bcell hb3
  go_wp2_with fail
  refine (flip_c hf _).mono ?_
  rintro e' w4 ⟨rfl, hb4⟩
  have hb40 := hb3.trans (hb4.mono hb3.size)
  clear hc3 hf3 hb4 hb3
  obtain ⟨hc4, hf4⟩ := bcell hb40
  have hz40 : w.heap.size < w4.heap.size := by have := hb40.size; simp at this; omega
  have hz41 : w.heap.size + 1 < w4.heap.size := by have := hb40.size; simp at this; omega
  have hz42 : w.heap.size + 2 < w4.heap.size := by have := hb40.size; simp at this; omega
  have hz43 : w1.heap.size < w4.heap.size := by have := hb40.size; simp at this; omega
  go_wp2_with fail
  refine wp_region_since (w4.alloc (Obj.cells #[Value.int IntKind.i64 (a0 + 1), Value.int IntKind.i64 (t)] 35)) (Below.refl _ _) (by kernel_rfl) (by kernel_rfl) (fun hne => ?_)
  have hN4 := @After.cell (w4.alloc (Obj.cells #[Value.int IntKind.i64 (a0 + 1), Value.int IntKind.i64 (t)] 35))
  repeat (go_big_quiet_step (first | (go_at_call 25; first | (with_reducible exact After.calls (join_c h1 _)) | (with_reducible exact After.calls (join_c h2 _)) | (with_reducible exact After.calls (join_c h3 _)) | (with_reducible exact After.calls (join_c h4 _)) | (with_reducible exact After.calls (join_c h5 _)) | (with_reducible exact After.calls (join_c h6 _)) | (with_reducible exact After.calls (join_c h11 _))) | (go_at_call 23; first | (with_reducible exact After.calls (compare_c h7 _)) | (with_reducible exact After.calls (compare_c h8 _)) | (with_reducible exact After.calls (compare_c h9 _)) | (with_reducible exact After.calls (compare_c h10 _)) | (with_reducible exact After.calls (compare_c h12 _))) | (go_at_call 18; exact After.calls (may_c hm _)) | (go_at_call 19; exact After.calls (awake_c _))))
  refine wpQuiet_nil (after_out ?_)
  intro w5 hb5
  go_wp2_with fail
  go_ret
  refine ⟨rfl, ?_⟩
  have q1 : Below w.heap.size w w4 := hS0.trans (hb40.mono hS0.size)
  exact (q1.alloc q1.size _).trans (hb5.mono (by have := q1.size; simp; omega))
set_option maxHeartbeats 2000000 in
theorem case_lt_err (a0 a1 b0 b1 c0 c1 t y0 y1 e : Int) (w : World) (h1 : Hid (joE a0 a1 b0 b1 = (b0, b1))) (h2 : Hid (joE b0 b1 a0 a1 = (b0, b1))) (h3 : Hid (joE b0 b1 c0 c1 = (y0, y1))) (h4 : Hid (joE b0 b1 c0 c1 = (y0, y1))) (h5 : Hid (joE a0 a1 y0 y1 = (y0, y1))) (h6 : Hid (joE a0 a1 a0 a1 = (a0, a1))) (h7 : Hid (cmpE a0 a1 b0 b1 = -1)) (h8 : Hid (cmpE b0 b1 b0 b1 = 0)) (h9 : Hid (cmpE a0 a1 b0 b1 = -1)) (h10 : Hid (cmpE b0 b1 a0 a1 = 1)) (ht0 : (a0 == b0) = false) (ht1 : (b0 == a0) = false) (he : (e == 0) = false) (he2 : (e != 0) = true) (hf : Hid (entry_Flip.f 1 a0 a1 t = some (0, 0, e))) (hm : Hid (mayE 0 0 = true)) :
    Calls Try.prog 8 #[.agg #[.int .i64 a0, .int .i64 a1], .agg #[.int .i64 b0, .int .i64 b1], .agg #[.int .i64 c0, .int .i64 c1], .int .i64 t] w fun e w' => e = .returned (.bool true) ∧ Below w.heap.size w w' := by
  go_enter Try.func8, Try.ntmps8
  go_wp2_with fail
  refine (join_c h1 _).mono ?_
  rintro e w1 ⟨rfl, hb1⟩
  have hS0 : Below w.heap.size w (w1.alloc (Obj.cells #[Value.int IntKind.i64 b0, Value.int IntKind.i64 b1] 35)) := ((((Below.refl _ _).alloc (Nat.le_refl _) _).alloc (by simp) _).alloc (by simp; omega) _ |>.trans (hb1.mono (by simp; omega))).alloc (by have := hb1.size; simp at this; omega) _
  obtain ⟨hc1, hf1⟩ := bcell hb1
  have hz0 : w.heap.size < w1.heap.size := by have := hb1.size; simp at this; omega
  have hz1 : w.heap.size + 1 < w1.heap.size := by have := hb1.size; simp at this; omega
  have hz2 : w.heap.size + 2 < w1.heap.size := by have := hb1.size; simp at this; omega
  go_wp2_with fail
  refine wp_region_since (w1.alloc (Obj.cells #[Value.int IntKind.i64 b0, Value.int IntKind.i64 b1] 35)) (Below.refl _ _) (by kernel_rfl) (by kernel_rfl) (fun hne => ?_)
  have hN := @After.cell (w1.alloc (Obj.cells #[Value.int IntKind.i64 b0, Value.int IntKind.i64 b1] 35))
  repeat (go_big_quiet_step (first | (go_at_call 25; first | (with_reducible exact After.calls (join_c h1 _)) | (with_reducible exact After.calls (join_c h2 _)) | (with_reducible exact After.calls (join_c h3 _)) | (with_reducible exact After.calls (join_c h4 _)) | (with_reducible exact After.calls (join_c h5 _)) | (with_reducible exact After.calls (join_c h6 _))) | (go_at_call 23; first | (with_reducible exact After.calls (compare_c h7 _)) | (with_reducible exact After.calls (compare_c h8 _)) | (with_reducible exact After.calls (compare_c h9 _)) | (with_reducible exact After.calls (compare_c h10 _))) | (go_at_call 18; exact After.calls (may_c hm _)) | (go_at_call 19; exact After.calls (awake_c _))))
  refine wpQuiet_nil (after_out ?_)
  intro w2 hb2
  obtain ⟨hc2, hf2⟩ := bcell hb2
  go_wp2_with fail
  refine wp_region_since (w1.alloc (Obj.cells #[Value.int IntKind.i64 b0, Value.int IntKind.i64 b1] 35)) hb2 (by kernel_rfl) (by kernel_rfl) (fun hne => ?_)
  repeat (go_big_quiet_step (first | (go_at_call 25; first | (with_reducible exact After.calls (join_c h1 _)) | (with_reducible exact After.calls (join_c h2 _)) | (with_reducible exact After.calls (join_c h3 _)) | (with_reducible exact After.calls (join_c h4 _)) | (with_reducible exact After.calls (join_c h5 _)) | (with_reducible exact After.calls (join_c h6 _))) | (go_at_call 23; first | (with_reducible exact After.calls (compare_c h7 _)) | (with_reducible exact After.calls (compare_c h8 _)) | (with_reducible exact After.calls (compare_c h9 _)) | (with_reducible exact After.calls (compare_c h10 _))) | (go_at_call 18; exact After.calls (may_c hm _)) | (go_at_call 19; exact After.calls (awake_c _))))
  refine wpQuiet_nil (after_out ?_)
  clear hc2 hf2 hb2
  intro w3 hb3
  obtain ⟨hc3, hf3⟩ := bcell hb3
  go_wp2_with fail
  refine (flip_c hf _).mono ?_
  rintro e' w4 ⟨rfl, hb4⟩
  have hb40 := hb3.trans (hb4.mono hb3.size)
  clear hc3 hf3 hb4 hb3
  obtain ⟨hc4, hf4⟩ := bcell hb40
  have hz40 : w.heap.size < w4.heap.size := by have := hb40.size; simp at this; omega
  have hz41 : w.heap.size + 1 < w4.heap.size := by have := hb40.size; simp at this; omega
  have hz42 : w.heap.size + 2 < w4.heap.size := by have := hb40.size; simp at this; omega
  have hz43 : w1.heap.size < w4.heap.size := by have := hb40.size; simp at this; omega
  go_wp2_with fail
  refine wp_region_since (w4.alloc (Obj.cells #[Value.int IntKind.i64 (0), Value.int IntKind.i64 (0)] 35)) (Below.refl _ _) (by kernel_rfl) (by kernel_rfl) (fun hne => ?_)
  have hN4 := @After.cell (w4.alloc (Obj.cells #[Value.int IntKind.i64 (0), Value.int IntKind.i64 (0)] 35))
  repeat (go_big_quiet_step (first | (go_at_call 25; first | (with_reducible exact After.calls (join_c h1 _)) | (with_reducible exact After.calls (join_c h2 _)) | (with_reducible exact After.calls (join_c h3 _)) | (with_reducible exact After.calls (join_c h4 _)) | (with_reducible exact After.calls (join_c h5 _)) | (with_reducible exact After.calls (join_c h6 _))) | (go_at_call 23; first | (with_reducible exact After.calls (compare_c h7 _)) | (with_reducible exact After.calls (compare_c h8 _)) | (with_reducible exact After.calls (compare_c h9 _)) | (with_reducible exact After.calls (compare_c h10 _))) | (go_at_call 18; exact After.calls (may_c hm _)) | (go_at_call 19; exact After.calls (awake_c _))))
  refine wpQuiet_nil (after_out ?_)
  intro w5 hb5
  go_wp2_with fail
  go_ret
  refine ⟨rfl, ?_⟩
  have q1 : Below w.heap.size w w4 := hS0.trans (hb40.mono hS0.size)
  exact (q1.alloc q1.size _).trans (hb5.mono (by have := q1.size; simp; omega))
set_option maxHeartbeats 2000000 in
theorem case_lt_ok (a0 a1 b0 b1 c0 c1 t y0 y1 : Int) (w : World) (h1 : Hid (joE a0 a1 b0 b1 = (b0, b1))) (h2 : Hid (joE b0 b1 a0 a1 = (b0, b1))) (h3 : Hid (joE b0 b1 c0 c1 = (y0, y1))) (h4 : Hid (joE b0 b1 c0 c1 = (y0, y1))) (h5 : Hid (joE a0 a1 y0 y1 = (y0, y1))) (h6 : Hid (joE a0 a1 a0 a1 = (a0, a1))) (h7 : Hid (cmpE a0 a1 b0 b1 = -1)) (h8 : Hid (cmpE b0 b1 b0 b1 = 0)) (h9 : Hid (cmpE a0 a1 b0 b1 = -1)) (h10 : Hid (cmpE b0 b1 a0 a1 = 1)) (ht0 : (a0 == b0) = false) (ht1 : (b0 == a0) = false) (ha0 : 0 ≤ a0) (ha1 : a0 ≤ 1000000) (hf : Hid (entry_Flip.f 1 a0 a1 t = some (a0 + 1, t, 0))) (hm : Hid (mayE (a0 + 1) t = true)) (h11 : Hid (joE a0 a1 (a0 + 1) t = (a0 + 1, t))) (h12 : Hid (cmpE (a0 + 1) t a0 a1 = 1)) :
    Calls Try.prog 8 #[.agg #[.int .i64 a0, .int .i64 a1], .agg #[.int .i64 b0, .int .i64 b1], .agg #[.int .i64 c0, .int .i64 c1], .int .i64 t] w fun e w' => e = .returned (.bool true) ∧ Below w.heap.size w w' := by
  go_enter Try.func8, Try.ntmps8
  go_wp2_with fail
  refine (join_c h1 _).mono ?_
  rintro e w1 ⟨rfl, hb1⟩
  have hS0 : Below w.heap.size w (w1.alloc (Obj.cells #[Value.int IntKind.i64 b0, Value.int IntKind.i64 b1] 35)) := ((((Below.refl _ _).alloc (Nat.le_refl _) _).alloc (by simp) _).alloc (by simp; omega) _ |>.trans (hb1.mono (by simp; omega))).alloc (by have := hb1.size; simp at this; omega) _
  obtain ⟨hc1, hf1⟩ := bcell hb1
  have hz0 : w.heap.size < w1.heap.size := by have := hb1.size; simp at this; omega
  have hz1 : w.heap.size + 1 < w1.heap.size := by have := hb1.size; simp at this; omega
  have hz2 : w.heap.size + 2 < w1.heap.size := by have := hb1.size; simp at this; omega
  go_wp2_with fail
  refine wp_region_since (w1.alloc (Obj.cells #[Value.int IntKind.i64 b0, Value.int IntKind.i64 b1] 35)) (Below.refl _ _) (by kernel_rfl) (by kernel_rfl) (fun hne => ?_)
  have hN := @After.cell (w1.alloc (Obj.cells #[Value.int IntKind.i64 b0, Value.int IntKind.i64 b1] 35))
  repeat (go_big_quiet_step (first | (go_at_call 25; first | (with_reducible exact After.calls (join_c h1 _)) | (with_reducible exact After.calls (join_c h2 _)) | (with_reducible exact After.calls (join_c h3 _)) | (with_reducible exact After.calls (join_c h4 _)) | (with_reducible exact After.calls (join_c h5 _)) | (with_reducible exact After.calls (join_c h6 _)) | (with_reducible exact After.calls (join_c h11 _))) | (go_at_call 23; first | (with_reducible exact After.calls (compare_c h7 _)) | (with_reducible exact After.calls (compare_c h8 _)) | (with_reducible exact After.calls (compare_c h9 _)) | (with_reducible exact After.calls (compare_c h10 _)) | (with_reducible exact After.calls (compare_c h12 _))) | (go_at_call 18; exact After.calls (may_c hm _)) | (go_at_call 19; exact After.calls (awake_c _))))
  refine wpQuiet_nil (after_out ?_)
  intro w2 hb2
  obtain ⟨hc2, hf2⟩ := bcell hb2
  go_wp2_with fail
  refine wp_region_since (w1.alloc (Obj.cells #[Value.int IntKind.i64 b0, Value.int IntKind.i64 b1] 35)) hb2 (by kernel_rfl) (by kernel_rfl) (fun hne => ?_)
  repeat (go_big_quiet_step (first | (go_at_call 25; first | (with_reducible exact After.calls (join_c h1 _)) | (with_reducible exact After.calls (join_c h2 _)) | (with_reducible exact After.calls (join_c h3 _)) | (with_reducible exact After.calls (join_c h4 _)) | (with_reducible exact After.calls (join_c h5 _)) | (with_reducible exact After.calls (join_c h6 _)) | (with_reducible exact After.calls (join_c h11 _))) | (go_at_call 23; first | (with_reducible exact After.calls (compare_c h7 _)) | (with_reducible exact After.calls (compare_c h8 _)) | (with_reducible exact After.calls (compare_c h9 _)) | (with_reducible exact After.calls (compare_c h10 _)) | (with_reducible exact After.calls (compare_c h12 _))) | (go_at_call 18; exact After.calls (may_c hm _)) | (go_at_call 19; exact After.calls (awake_c _))))
  refine wpQuiet_nil (after_out ?_)
  clear hc2 hf2 hb2
  intro w3 hb3
  obtain ⟨hc3, hf3⟩ := bcell hb3
  go_wp2_with fail
  refine (flip_c hf _).mono ?_
  rintro e' w4 ⟨rfl, hb4⟩
  have hb40 := hb3.trans (hb4.mono hb3.size)
  clear hc3 hf3 hb4 hb3
  obtain ⟨hc4, hf4⟩ := bcell hb40
  have hz40 : w.heap.size < w4.heap.size := by have := hb40.size; simp at this; omega
  have hz41 : w.heap.size + 1 < w4.heap.size := by have := hb40.size; simp at this; omega
  have hz42 : w.heap.size + 2 < w4.heap.size := by have := hb40.size; simp at this; omega
  have hz43 : w1.heap.size < w4.heap.size := by have := hb40.size; simp at this; omega
  go_wp2_with fail
  refine wp_region_since (w4.alloc (Obj.cells #[Value.int IntKind.i64 (a0 + 1), Value.int IntKind.i64 (t)] 35)) (Below.refl _ _) (by kernel_rfl) (by kernel_rfl) (fun hne => ?_)
  have hN4 := @After.cell (w4.alloc (Obj.cells #[Value.int IntKind.i64 (a0 + 1), Value.int IntKind.i64 (t)] 35))
  repeat (go_big_quiet_step (first | (go_at_call 25; first | (with_reducible exact After.calls (join_c h1 _)) | (with_reducible exact After.calls (join_c h2 _)) | (with_reducible exact After.calls (join_c h3 _)) | (with_reducible exact After.calls (join_c h4 _)) | (with_reducible exact After.calls (join_c h5 _)) | (with_reducible exact After.calls (join_c h6 _)) | (with_reducible exact After.calls (join_c h11 _))) | (go_at_call 23; first | (with_reducible exact After.calls (compare_c h7 _)) | (with_reducible exact After.calls (compare_c h8 _)) | (with_reducible exact After.calls (compare_c h9 _)) | (with_reducible exact After.calls (compare_c h10 _)) | (with_reducible exact After.calls (compare_c h12 _))) | (go_at_call 18; exact After.calls (may_c hm _)) | (go_at_call 19; exact After.calls (awake_c _))))
  refine wpQuiet_nil (after_out ?_)
  intro w5 hb5
  go_wp2_with fail
  go_ret
  refine ⟨rfl, ?_⟩
  have q1 : Below w.heap.size w w4 := hS0.trans (hb40.mono hS0.size)
  exact (q1.alloc q1.size _).trans (hb5.mono (by have := q1.size; simp; omega))
set_option maxHeartbeats 2000000 in
theorem case_lt1_err (a0 a1 b1 c0 c1 t y0 y1 e : Int) (w : World) (h1 : Hid (joE a0 a1 a0 b1 = (a0, b1))) (h2 : Hid (joE a0 b1 a0 a1 = (a0, b1))) (h3 : Hid (joE a0 b1 c0 c1 = (y0, y1))) (h4 : Hid (joE a0 b1 c0 c1 = (y0, y1))) (h5 : Hid (joE a0 a1 y0 y1 = (y0, y1))) (h6 : Hid (joE a0 a1 a0 a1 = (a0, a1))) (h7 : Hid (cmpE a0 a1 a0 b1 = -1)) (h8 : Hid (cmpE a0 b1 a0 b1 = 0)) (h9 : Hid (cmpE a0 a1 a0 b1 = -1)) (h10 : Hid (cmpE a0 b1 a0 a1 = 1)) (ht0 : (a1 == b1) = false) (ht1 : (b1 == a1) = false) (he : (e == 0) = false) (he2 : (e != 0) = true) (hf : Hid (entry_Flip.f 1 a0 a1 t = some (0, 0, e))) (hm : Hid (mayE 0 0 = true)) :
    Calls Try.prog 8 #[.agg #[.int .i64 a0, .int .i64 a1], .agg #[.int .i64 a0, .int .i64 b1], .agg #[.int .i64 c0, .int .i64 c1], .int .i64 t] w fun e w' => e = .returned (.bool true) ∧ Below w.heap.size w w' := by
  go_enter Try.func8, Try.ntmps8
  go_wp2_with fail
  refine (join_c h1 _).mono ?_
  rintro e w1 ⟨rfl, hb1⟩
  have hS0 : Below w.heap.size w (w1.alloc (Obj.cells #[Value.int IntKind.i64 a0, Value.int IntKind.i64 b1] 35)) := ((((Below.refl _ _).alloc (Nat.le_refl _) _).alloc (by simp) _).alloc (by simp; omega) _ |>.trans (hb1.mono (by simp; omega))).alloc (by have := hb1.size; simp at this; omega) _
  obtain ⟨hc1, hf1⟩ := bcell hb1
  have hz0 : w.heap.size < w1.heap.size := by have := hb1.size; simp at this; omega
  have hz1 : w.heap.size + 1 < w1.heap.size := by have := hb1.size; simp at this; omega
  have hz2 : w.heap.size + 2 < w1.heap.size := by have := hb1.size; simp at this; omega
  go_wp2_with fail
  refine wp_region_since (w1.alloc (Obj.cells #[Value.int IntKind.i64 a0, Value.int IntKind.i64 b1] 35)) (Below.refl _ _) (by kernel_rfl) (by kernel_rfl) (fun hne => ?_)
  have hN := @After.cell (w1.alloc (Obj.cells #[Value.int IntKind.i64 a0, Value.int IntKind.i64 b1] 35))
  repeat (go_big_quiet_step (first | (go_at_call 25; first | (with_reducible exact After.calls (join_c h1 _)) | (with_reducible exact After.calls (join_c h2 _)) | (with_reducible exact After.calls (join_c h3 _)) | (with_reducible exact After.calls (join_c h4 _)) | (with_reducible exact After.calls (join_c h5 _)) | (with_reducible exact After.calls (join_c h6 _))) | (go_at_call 23; first | (with_reducible exact After.calls (compare_c h7 _)) | (with_reducible exact After.calls (compare_c h8 _)) | (with_reducible exact After.calls (compare_c h9 _)) | (with_reducible exact After.calls (compare_c h10 _))) | (go_at_call 18; exact After.calls (may_c hm _)) | (go_at_call 19; exact After.calls (awake_c _))))
  refine wpQuiet_nil (after_out ?_)
  intro w2 hb2
  obtain ⟨hc2, hf2⟩ := bcell hb2
  go_wp2_with fail
  refine wp_region_since (w1.alloc (Obj.cells #[Value.int IntKind.i64 a0, Value.int IntKind.i64 b1] 35)) hb2 (by kernel_rfl) (by kernel_rfl) (fun hne => ?_)
  repeat (go_big_quiet_step (first | (go_at_call 25; first | (with_reducible exact After.calls (join_c h1 _)) | (with_reducible exact After.calls (join_c h2 _)) | (with_reducible exact After.calls (join_c h3 _)) | (with_reducible exact After.calls (join_c h4 _)) | (with_reducible exact After.calls (join_c h5 _)) | (with_reducible exact After.calls (join_c h6 _))) | (go_at_call 23; first | (with_reducible exact After.calls (compare_c h7 _)) | (with_reducible exact After.calls (compare_c h8 _)) | (with_reducible exact After.calls (compare_c h9 _)) | (with_reducible exact After.calls (compare_c h10 _))) | (go_at_call 18; exact After.calls (may_c hm _)) | (go_at_call 19; exact After.calls (awake_c _))))
  refine wpQuiet_nil (after_out ?_)
  clear hc2 hf2 hb2
  intro w3 hb3
  obtain ⟨hc3, hf3⟩ := bcell hb3
  go_wp2_with fail
  refine (flip_c hf _).mono ?_
  rintro e' w4 ⟨rfl, hb4⟩
  have hb40 := hb3.trans (hb4.mono hb3.size)
  clear hc3 hf3 hb4 hb3
  obtain ⟨hc4, hf4⟩ := bcell hb40
  have hz40 : w.heap.size < w4.heap.size := by have := hb40.size; simp at this; omega
  have hz41 : w.heap.size + 1 < w4.heap.size := by have := hb40.size; simp at this; omega
  have hz42 : w.heap.size + 2 < w4.heap.size := by have := hb40.size; simp at this; omega
  have hz43 : w1.heap.size < w4.heap.size := by have := hb40.size; simp at this; omega
  go_wp2_with fail
  refine wp_region_since (w4.alloc (Obj.cells #[Value.int IntKind.i64 (0), Value.int IntKind.i64 (0)] 35)) (Below.refl _ _) (by kernel_rfl) (by kernel_rfl) (fun hne => ?_)
  have hN4 := @After.cell (w4.alloc (Obj.cells #[Value.int IntKind.i64 (0), Value.int IntKind.i64 (0)] 35))
  repeat (go_big_quiet_step (first | (go_at_call 25; first | (with_reducible exact After.calls (join_c h1 _)) | (with_reducible exact After.calls (join_c h2 _)) | (with_reducible exact After.calls (join_c h3 _)) | (with_reducible exact After.calls (join_c h4 _)) | (with_reducible exact After.calls (join_c h5 _)) | (with_reducible exact After.calls (join_c h6 _))) | (go_at_call 23; first | (with_reducible exact After.calls (compare_c h7 _)) | (with_reducible exact After.calls (compare_c h8 _)) | (with_reducible exact After.calls (compare_c h9 _)) | (with_reducible exact After.calls (compare_c h10 _))) | (go_at_call 18; exact After.calls (may_c hm _)) | (go_at_call 19; exact After.calls (awake_c _))))
  refine wpQuiet_nil (after_out ?_)
  intro w5 hb5
  go_wp2_with fail
  go_ret
  refine ⟨rfl, ?_⟩
  have q1 : Below w.heap.size w w4 := hS0.trans (hb40.mono hS0.size)
  exact (q1.alloc q1.size _).trans (hb5.mono (by have := q1.size; simp; omega))
set_option maxHeartbeats 2000000 in
theorem case_lt1_ok (a0 a1 b1 c0 c1 t y0 y1 : Int) (w : World) (h1 : Hid (joE a0 a1 a0 b1 = (a0, b1))) (h2 : Hid (joE a0 b1 a0 a1 = (a0, b1))) (h3 : Hid (joE a0 b1 c0 c1 = (y0, y1))) (h4 : Hid (joE a0 b1 c0 c1 = (y0, y1))) (h5 : Hid (joE a0 a1 y0 y1 = (y0, y1))) (h6 : Hid (joE a0 a1 a0 a1 = (a0, a1))) (h7 : Hid (cmpE a0 a1 a0 b1 = -1)) (h8 : Hid (cmpE a0 b1 a0 b1 = 0)) (h9 : Hid (cmpE a0 a1 a0 b1 = -1)) (h10 : Hid (cmpE a0 b1 a0 a1 = 1)) (ht0 : (a1 == b1) = false) (ht1 : (b1 == a1) = false) (ha0 : 0 ≤ a0) (ha1 : a0 ≤ 1000000) (hf : Hid (entry_Flip.f 1 a0 a1 t = some (a0 + 1, t, 0))) (hm : Hid (mayE (a0 + 1) t = true)) (h11 : Hid (joE a0 a1 (a0 + 1) t = (a0 + 1, t))) (h12 : Hid (cmpE (a0 + 1) t a0 a1 = 1)) :
    Calls Try.prog 8 #[.agg #[.int .i64 a0, .int .i64 a1], .agg #[.int .i64 a0, .int .i64 b1], .agg #[.int .i64 c0, .int .i64 c1], .int .i64 t] w fun e w' => e = .returned (.bool true) ∧ Below w.heap.size w w' := by
  go_enter Try.func8, Try.ntmps8
  go_wp2_with fail
  refine (join_c h1 _).mono ?_
  rintro e w1 ⟨rfl, hb1⟩
  have hS0 : Below w.heap.size w (w1.alloc (Obj.cells #[Value.int IntKind.i64 a0, Value.int IntKind.i64 b1] 35)) := ((((Below.refl _ _).alloc (Nat.le_refl _) _).alloc (by simp) _).alloc (by simp; omega) _ |>.trans (hb1.mono (by simp; omega))).alloc (by have := hb1.size; simp at this; omega) _
  obtain ⟨hc1, hf1⟩ := bcell hb1
  have hz0 : w.heap.size < w1.heap.size := by have := hb1.size; simp at this; omega
  have hz1 : w.heap.size + 1 < w1.heap.size := by have := hb1.size; simp at this; omega
  have hz2 : w.heap.size + 2 < w1.heap.size := by have := hb1.size; simp at this; omega
  go_wp2_with fail
  refine wp_region_since (w1.alloc (Obj.cells #[Value.int IntKind.i64 a0, Value.int IntKind.i64 b1] 35)) (Below.refl _ _) (by kernel_rfl) (by kernel_rfl) (fun hne => ?_)
  have hN := @After.cell (w1.alloc (Obj.cells #[Value.int IntKind.i64 a0, Value.int IntKind.i64 b1] 35))
  repeat (go_big_quiet_step (first | (go_at_call 25; first | (with_reducible exact After.calls (join_c h1 _)) | (with_reducible exact After.calls (join_c h2 _)) | (with_reducible exact After.calls (join_c h3 _)) | (with_reducible exact After.calls (join_c h4 _)) | (with_reducible exact After.calls (join_c h5 _)) | (with_reducible exact After.calls (join_c h6 _)) | (with_reducible exact After.calls (join_c h11 _))) | (go_at_call 23; first | (with_reducible exact After.calls (compare_c h7 _)) | (with_reducible exact After.calls (compare_c h8 _)) | (with_reducible exact After.calls (compare_c h9 _)) | (with_reducible exact After.calls (compare_c h10 _)) | (with_reducible exact After.calls (compare_c h12 _))) | (go_at_call 18; exact After.calls (may_c hm _)) | (go_at_call 19; exact After.calls (awake_c _))))
  refine wpQuiet_nil (after_out ?_)
  intro w2 hb2
  obtain ⟨hc2, hf2⟩ := bcell hb2
  go_wp2_with fail
  refine wp_region_since (w1.alloc (Obj.cells #[Value.int IntKind.i64 a0, Value.int IntKind.i64 b1] 35)) hb2 (by kernel_rfl) (by kernel_rfl) (fun hne => ?_)
  repeat (go_big_quiet_step (first | (go_at_call 25; first | (with_reducible exact After.calls (join_c h1 _)) | (with_reducible exact After.calls (join_c h2 _)) | (with_reducible exact After.calls (join_c h3 _)) | (with_reducible exact After.calls (join_c h4 _)) | (with_reducible exact After.calls (join_c h5 _)) | (with_reducible exact After.calls (join_c h6 _)) | (with_reducible exact After.calls (join_c h11 _))) | (go_at_call 23; first | (with_reducible exact After.calls (compare_c h7 _)) | (with_reducible exact After.calls (compare_c h8 _)) | (with_reducible exact After.calls (compare_c h9 _)) | (with_reducible exact After.calls (compare_c h10 _)) | (with_reducible exact After.calls (compare_c h12 _))) | (go_at_call 18; exact After.calls (may_c hm _)) | (go_at_call 19; exact After.calls (awake_c _))))
  refine wpQuiet_nil (after_out ?_)
  clear hc2 hf2 hb2
  intro w3 hb3
  obtain ⟨hc3, hf3⟩ := bcell hb3
  go_wp2_with fail
  refine (flip_c hf _).mono ?_
  rintro e' w4 ⟨rfl, hb4⟩
  have hb40 := hb3.trans (hb4.mono hb3.size)
  clear hc3 hf3 hb4 hb3
  obtain ⟨hc4, hf4⟩ := bcell hb40
  have hz40 : w.heap.size < w4.heap.size := by have := hb40.size; simp at this; omega
  have hz41 : w.heap.size + 1 < w4.heap.size := by have := hb40.size; simp at this; omega
  have hz42 : w.heap.size + 2 < w4.heap.size := by have := hb40.size; simp at this; omega
  have hz43 : w1.heap.size < w4.heap.size := by have := hb40.size; simp at this; omega
  go_wp2_with fail
  refine wp_region_since (w4.alloc (Obj.cells #[Value.int IntKind.i64 (a0 + 1), Value.int IntKind.i64 (t)] 35)) (Below.refl _ _) (by kernel_rfl) (by kernel_rfl) (fun hne => ?_)
  have hN4 := @After.cell (w4.alloc (Obj.cells #[Value.int IntKind.i64 (a0 + 1), Value.int IntKind.i64 (t)] 35))
  repeat (go_big_quiet_step (first | (go_at_call 25; first | (with_reducible exact After.calls (join_c h1 _)) | (with_reducible exact After.calls (join_c h2 _)) | (with_reducible exact After.calls (join_c h3 _)) | (with_reducible exact After.calls (join_c h4 _)) | (with_reducible exact After.calls (join_c h5 _)) | (with_reducible exact After.calls (join_c h6 _)) | (with_reducible exact After.calls (join_c h11 _))) | (go_at_call 23; first | (with_reducible exact After.calls (compare_c h7 _)) | (with_reducible exact After.calls (compare_c h8 _)) | (with_reducible exact After.calls (compare_c h9 _)) | (with_reducible exact After.calls (compare_c h10 _)) | (with_reducible exact After.calls (compare_c h12 _))) | (go_at_call 18; exact After.calls (may_c hm _)) | (go_at_call 19; exact After.calls (awake_c _))))
  refine wpQuiet_nil (after_out ?_)
  intro w5 hb5
  go_wp2_with fail
  go_ret
  refine ⟨rfl, ?_⟩
  have q1 : Below w.heap.size w w4 := hS0.trans (hb40.mono hS0.size)
  exact (q1.alloc q1.size _).trans (hb5.mono (by have := q1.size; simp; omega))
end Go.Proofs.Ytngoopfdfihkpaa.WEntryJoins
