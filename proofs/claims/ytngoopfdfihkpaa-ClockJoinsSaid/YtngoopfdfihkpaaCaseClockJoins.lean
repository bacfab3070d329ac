/- ClockJoins: the walk of the law, its answers as the plain laws give them. Conditions: those that are typed. -/
import Derived.Test.YtngoopfdfihkpaaClockD
import Derived.Test.YtngoopfdfihkpaaReads
namespace Go.Proofs.Ytngoopfdfihkpaa.WClockJoins
open Go.RowKit Kit Clk
set_option linter.unusedVariables false
attribute [local go_sem high] run_equalIn_8
attribute [local go_sem] eq8_self

/-- Behind a name that the walk does not open. -/
def Past (S w : World) : Prop := Below S.heap.size S w
theorem Past.out {S w : World} (h : Past S w) : Below S.heap.size S w := h

set_option maxHeartbeats 8000000 in
set_option maxRecDepth 100000 in
theorem core (a b c x y z r : Nat → Int) (n k : Int) (w : World) (βac βbc βxc βab βba ηa ηb ηx : Bool)
    (j1 : Hid (∀ i, i < 8 → mx (a i) (b i) = x i)) (j2 : Hid (∀ i, i < 8 → mx (b i) (a i) = x i)) (j3 : Hid (∀ i, i < 8 → mx (x i) (c i) = y i)) (j4 : Hid (∀ i, i < 8 → mx (b i) (c i) = z i)) (j5 : Hid (∀ i, i < 8 → mx (a i) (z i) = y i)) (j6 : Hid (∀ i, i < 8 → mx (a i) (a i) = a i))
    (l1 : Hid (leV a x = true)) (l2 : Hid (leV b x = true)) (l3 : Hid (leV a c = βac)) (l4 : Hid (leV b c = βbc)) (l5 : Hid (leV x c = βxc)) (hβ : Hid (βac = true → βbc = true → βxc = true))
    (g1 : Hid (hasV x n k = ηx)) (g2 : Hid (hasV a n k = ηa)) (g3 : Hid (hasV b n k = ηb)) (hη : Hid (ηx = (ηa || ηb))) (l6 : Hid (leV a b = βab)) (l7 : Hid (leV b a = βba)) (hab : Hid (βab = true → ηa = true → ηb = true))
    (w1' : Hid (∀ i, i < 8 → wiV a n k i = r i)) (l8 : Hid (leV a r = true)) (g4 : Hid (0 ≤ n → n < 8 → 1 ≤ k → hasV r n k = true))
    (he : Hid (eq8 (a 0) (a 1) (a 2) (a 3) (a 4) (a 5) (a 6) (a 7) (b 0) (b 1) (b 2) (b 3) (b 4) (b 5) (b 6) (b 7) = (βab && βba))) :
    Calls Try.prog 3 #[V a, V b, V c, .agg #[.int .i64 n, .int .i64 k]] w fun e w' => e = .returned (.bool true) ∧ Below w.heap.size w w' := by
  go_enter Try.func3, Try.ntmps3
  go_wp2_with fail
  refine Calls.cells (join1 j1.out _) ?_
  intro w1 hb1 hc1
  have q1 : Below w.heap.size w w1 := (((((Below.refl _ _).alloc (Nat.le_refl _) _).alloc (by simp) _).alloc (by simp; omega) _).alloc (by simp; omega) _).trans (hb1.mono (by simp; omega))
  have z0 : w.heap.size < w1.heap.size := by have := hb1.size; simp at this; omega
  have z1 : w.heap.size + 1 < w1.heap.size := by have := hb1.size; simp at this; omega
  have z2 : w.heap.size + 2 < w1.heap.size := by have := hb1.size; simp at this; omega
  have z3 : w.heap.size + 3 < w1.heap.size := by have := hb1.size; simp at this; omega
  go_upto_region 2 with fail
  go_cut [64] (fun s wx => s = .bool false ∧ Past (w1.alloc (arr8 x)) wx)
  case first =>
    cases βac with
    | false =>
      refine wp_draws _ (Below.refl _ _) (by kernel_rfl) (by kernel_rfl) (fun hne hN => ?_)
      repeat (go_big_quiet_step (first | (go_at_call 11; first | (with_reducible exact After.calls (join1 j2.out _)) | (with_reducible exact After.calls (join1 j3.out _)) | (with_reducible exact After.calls (join1 j4.out _)) | (with_reducible exact After.calls (join1 j5.out _)) | (with_reducible exact After.calls (join1 j6.out _))) | (go_at_call 12; first | (with_reducible exact After.calls (below1 l1.out _)) | (with_reducible exact After.calls (below1 l2.out _)) | (with_reducible exact After.calls (below1 l3.out _)) | (with_reducible exact After.calls (below1 l4.out _)) | (with_reducible exact After.calls (below1 l5.out _)) | (with_reducible exact After.calls (below1 l6.out _)) | (with_reducible exact After.calls (below1 l7.out _)) | (with_reducible exact After.calls (below1 l8.out _))) | (go_at_call 13; first | (with_reducible exact After.calls (has1 g1.out _)) | (with_reducible exact After.calls (has1 g2.out _)) | (with_reducible exact After.calls (has1 g3.out _)) | (with_reducible exact After.calls (has1 g5.out _))) | (go_at_call 15; with_reducible exact After.calls (awake0 _))))
      refine wpQuiet_nil (after_cells ?_)
      intro w2' hb2' hc2'
      go_wp2_with fail
      go_meet
      exact ⟨rfl, hb2'⟩
    | true =>
      cases βbc with
      | false =>
        refine wp_draws _ (Below.refl _ _) (by kernel_rfl) (by kernel_rfl) (fun hne hN => ?_)
        repeat (go_big_quiet_step (first | (go_at_call 11; first | (with_reducible exact After.calls (join1 j2.out _)) | (with_reducible exact After.calls (join1 j3.out _)) | (with_reducible exact After.calls (join1 j4.out _)) | (with_reducible exact After.calls (join1 j5.out _)) | (with_reducible exact After.calls (join1 j6.out _))) | (go_at_call 12; first | (with_reducible exact After.calls (below1 l1.out _)) | (with_reducible exact After.calls (below1 l2.out _)) | (with_reducible exact After.calls (below1 l3.out _)) | (with_reducible exact After.calls (below1 l4.out _)) | (with_reducible exact After.calls (below1 l5.out _)) | (with_reducible exact After.calls (below1 l6.out _)) | (with_reducible exact After.calls (below1 l7.out _)) | (with_reducible exact After.calls (below1 l8.out _))) | (go_at_call 13; first | (with_reducible exact After.calls (has1 g1.out _)) | (with_reducible exact After.calls (has1 g2.out _)) | (with_reducible exact After.calls (has1 g3.out _)) | (with_reducible exact After.calls (has1 g5.out _))) | (go_at_call 15; with_reducible exact After.calls (awake0 _))))
        refine wpQuiet_nil (after_cells ?_)
        intro w2' hb2' hc2'
        go_wp2_with fail
        go_meet
        exact ⟨rfl, hb2'⟩
      | true =>
        obtain rfl := hβ.out rfl rfl
        refine wp_draws _ (Below.refl _ _) (by kernel_rfl) (by kernel_rfl) (fun hne hN => ?_)
        repeat (go_big_quiet_step (first | (go_at_call 11; first | (with_reducible exact After.calls (join1 j2.out _)) | (with_reducible exact After.calls (join1 j3.out _)) | (with_reducible exact After.calls (join1 j4.out _)) | (with_reducible exact After.calls (join1 j5.out _)) | (with_reducible exact After.calls (join1 j6.out _))) | (go_at_call 12; first | (with_reducible exact After.calls (below1 l1.out _)) | (with_reducible exact After.calls (below1 l2.out _)) | (with_reducible exact After.calls (below1 l3.out _)) | (with_reducible exact After.calls (below1 l4.out _)) | (with_reducible exact After.calls (below1 l5.out _)) | (with_reducible exact After.calls (below1 l6.out _)) | (with_reducible exact After.calls (below1 l7.out _)) | (with_reducible exact After.calls (below1 l8.out _))) | (go_at_call 13; first | (with_reducible exact After.calls (has1 g1.out _)) | (with_reducible exact After.calls (has1 g2.out _)) | (with_reducible exact After.calls (has1 g3.out _)) | (with_reducible exact After.calls (has1 g5.out _))) | (go_at_call 15; with_reducible exact After.calls (awake0 _))))
        refine wpQuiet_nil (after_cells ?_)
        intro w2' hb2' hc2'
        go_wp2_with fail
        go_meet
        exact ⟨rfl, hb2'⟩
  case rest =>
  obtain ⟨rfl, hb2⟩ := hcut
  clear l1 l2 l3 l4 l5 hβ j2 j3 j4 j5 j6
  go_upto_region 4 with fail
  go_cut [92] (fun s wx => s = .bool false ∧ Past (w1.alloc (arr8 x)) wx)
  case first =>
    cases ηa with
    | false =>
      obtain rfl : ηx = ηb := by have := hη.out; simpa using this
      cases βab with
      | false =>
        refine wp_draws _ hb2.out (by kernel_rfl) (by kernel_rfl) (fun hne hN => ?_)
        repeat (go_big_quiet_step (first | (go_at_call 11; first | (with_reducible exact After.calls (join1 j2.out _)) | (with_reducible exact After.calls (join1 j3.out _)) | (with_reducible exact After.calls (join1 j4.out _)) | (with_reducible exact After.calls (join1 j5.out _)) | (with_reducible exact After.calls (join1 j6.out _))) | (go_at_call 12; first | (with_reducible exact After.calls (below1 l1.out _)) | (with_reducible exact After.calls (below1 l2.out _)) | (with_reducible exact After.calls (below1 l3.out _)) | (with_reducible exact After.calls (below1 l4.out _)) | (with_reducible exact After.calls (below1 l5.out _)) | (with_reducible exact After.calls (below1 l6.out _)) | (with_reducible exact After.calls (below1 l7.out _)) | (with_reducible exact After.calls (below1 l8.out _))) | (go_at_call 13; first | (with_reducible exact After.calls (has1 g1.out _)) | (with_reducible exact After.calls (has1 g2.out _)) | (with_reducible exact After.calls (has1 g3.out _)) | (with_reducible exact After.calls (has1 g5.out _))) | (go_at_call 15; with_reducible exact After.calls (awake0 _))))
        refine wpQuiet_nil (after_cells ?_)
        intro w2' hb3' hc2'
        go_wp2_with fail
        go_meet
        exact ⟨rfl, hb3'⟩
      | true =>
        refine wp_draws _ hb2.out (by kernel_rfl) (by kernel_rfl) (fun hne hN => ?_)
        repeat (go_big_quiet_step (first | (go_at_call 11; first | (with_reducible exact After.calls (join1 j2.out _)) | (with_reducible exact After.calls (join1 j3.out _)) | (with_reducible exact After.calls (join1 j4.out _)) | (with_reducible exact After.calls (join1 j5.out _)) | (with_reducible exact After.calls (join1 j6.out _))) | (go_at_call 12; first | (with_reducible exact After.calls (below1 l1.out _)) | (with_reducible exact After.calls (below1 l2.out _)) | (with_reducible exact After.calls (below1 l3.out _)) | (with_reducible exact After.calls (below1 l4.out _)) | (with_reducible exact After.calls (below1 l5.out _)) | (with_reducible exact After.calls (below1 l6.out _)) | (with_reducible exact After.calls (below1 l7.out _)) | (with_reducible exact After.calls (below1 l8.out _))) | (go_at_call 13; first | (with_reducible exact After.calls (has1 g1.out _)) | (with_reducible exact After.calls (has1 g2.out _)) | (with_reducible exact After.calls (has1 g3.out _)) | (with_reducible exact After.calls (has1 g5.out _))) | (go_at_call 15; with_reducible exact After.calls (awake0 _))))
        refine wpQuiet_nil (after_cells ?_)
        intro w2' hb3' hc2'
        go_wp2_with fail
        go_meet
        exact ⟨rfl, hb3'⟩
    | true =>
      obtain rfl : ηx = true := by have := hη.out; simpa using this
      cases βab with
      | false =>
        refine wp_draws _ hb2.out (by kernel_rfl) (by kernel_rfl) (fun hne hN => ?_)
        repeat (go_big_quiet_step (first | (go_at_call 11; first | (with_reducible exact After.calls (join1 j2.out _)) | (with_reducible exact After.calls (join1 j3.out _)) | (with_reducible exact After.calls (join1 j4.out _)) | (with_reducible exact After.calls (join1 j5.out _)) | (with_reducible exact After.calls (join1 j6.out _))) | (go_at_call 12; first | (with_reducible exact After.calls (below1 l1.out _)) | (with_reducible exact After.calls (below1 l2.out _)) | (with_reducible exact After.calls (below1 l3.out _)) | (with_reducible exact After.calls (below1 l4.out _)) | (with_reducible exact After.calls (below1 l5.out _)) | (with_reducible exact After.calls (below1 l6.out _)) | (with_reducible exact After.calls (below1 l7.out _)) | (with_reducible exact After.calls (below1 l8.out _))) | (go_at_call 13; first | (with_reducible exact After.calls (has1 g1.out _)) | (with_reducible exact After.calls (has1 g2.out _)) | (with_reducible exact After.calls (has1 g3.out _)) | (with_reducible exact After.calls (has1 g5.out _))) | (go_at_call 15; with_reducible exact After.calls (awake0 _))))
        refine wpQuiet_nil (after_cells ?_)
        intro w2' hb3' hc2'
        go_wp2_with fail
        go_meet
        exact ⟨rfl, hb3'⟩
      | true =>
        obtain rfl := hab.out rfl rfl
        refine wp_draws _ hb2.out (by kernel_rfl) (by kernel_rfl) (fun hne hN => ?_)
        repeat (go_big_quiet_step (first | (go_at_call 11; first | (with_reducible exact After.calls (join1 j2.out _)) | (with_reducible exact After.calls (join1 j3.out _)) | (with_reducible exact After.calls (join1 j4.out _)) | (with_reducible exact After.calls (join1 j5.out _)) | (with_reducible exact After.calls (join1 j6.out _))) | (go_at_call 12; first | (with_reducible exact After.calls (below1 l1.out _)) | (with_reducible exact After.calls (below1 l2.out _)) | (with_reducible exact After.calls (below1 l3.out _)) | (with_reducible exact After.calls (below1 l4.out _)) | (with_reducible exact After.calls (below1 l5.out _)) | (with_reducible exact After.calls (below1 l6.out _)) | (with_reducible exact After.calls (below1 l7.out _)) | (with_reducible exact After.calls (below1 l8.out _))) | (go_at_call 13; first | (with_reducible exact After.calls (has1 g1.out _)) | (with_reducible exact After.calls (has1 g2.out _)) | (with_reducible exact After.calls (has1 g3.out _)) | (with_reducible exact After.calls (has1 g5.out _))) | (go_at_call 15; with_reducible exact After.calls (awake0 _))))
        refine wpQuiet_nil (after_cells ?_)
        intro w2' hb3' hc2'
        go_wp2_with fail
        go_meet
        exact ⟨rfl, hb3'⟩
  case rest =>
  clear hb2
  obtain ⟨rfl, hb2⟩ := hcut
  have hc2 := (bcell hb2.out).1
  go_wp2_with fail
  refine Calls.cells (with1 w1'.out _) ?_
  intro w3 hb3 hc3
  have hz : Below _ _ _ := hb2.out.trans (hb3.mono hb2.out.size)
  clear hb3 hc3 hc2
  have q3 : Below w.heap.size w w3 := (q1.alloc q1.size _).trans (hz.mono (by have := q1.size; simp; omega))
  have hc3 := (bcell hz).1
  have y0 : w.heap.size < w3.heap.size := by have := hz.size; simp at this; omega
  have y1 : w.heap.size + 1 < w3.heap.size := by have := hz.size; simp at this; omega
  have y2 : w.heap.size + 2 < w3.heap.size := by have := hz.size; simp at this; omega
  have y3 : w.heap.size + 3 < w3.heap.size := by have := hz.size; simp at this; omega
  have y4 : w1.heap.size < w3.heap.size := by have := hz.size; simp at this; omega
  go_upto_region 7 with fail
  clear j1 g1 g2 g3 hη hab
  by_cases t1 : n < 0
  · have d1 : decide (n < 0) = true := by simpa using t1
    cases βab with
    | false =>
      refine wp_draws _ (Below.refl _ _) (by kernel_rfl) (by kernel_rfl) (fun hne hN => ?_)
      have he' := he.out
      repeat (go_big_quiet_step (first | (go_at_call 11; first | (with_reducible exact After.calls (join1 j2.out _)) | (with_reducible exact After.calls (join1 j3.out _)) | (with_reducible exact After.calls (join1 j4.out _)) | (with_reducible exact After.calls (join1 j5.out _)) | (with_reducible exact After.calls (join1 j6.out _))) | (go_at_call 12; first | (with_reducible exact After.calls (below1 l1.out _)) | (with_reducible exact After.calls (below1 l2.out _)) | (with_reducible exact After.calls (below1 l3.out _)) | (with_reducible exact After.calls (below1 l4.out _)) | (with_reducible exact After.calls (below1 l5.out _)) | (with_reducible exact After.calls (below1 l6.out _)) | (with_reducible exact After.calls (below1 l7.out _)) | (with_reducible exact After.calls (below1 l8.out _))) | (go_at_call 13; first | (with_reducible exact After.calls (has1 g1.out _)) | (with_reducible exact After.calls (has1 g2.out _)) | (with_reducible exact After.calls (has1 g3.out _)) | (with_reducible exact After.calls (has1 g5.out _))) | (go_at_call 15; with_reducible exact After.calls (awake0 _))))
      refine wpQuiet_nil (after_cells ?_)
      intro w4 hb4 hc4
      go_wp2_with fail
      go_ret
      exact ⟨rfl, (q3.alloc q3.size _).trans (hb4.mono (by have := q3.size; simp; omega))⟩
    | true =>
      refine wp_draws _ (Below.refl _ _) (by kernel_rfl) (by kernel_rfl) (fun hne hN => ?_)
      have he' := he.out
      repeat (go_big_quiet_step (first | (go_at_call 11; first | (with_reducible exact After.calls (join1 j2.out _)) | (with_reducible exact After.calls (join1 j3.out _)) | (with_reducible exact After.calls (join1 j4.out _)) | (with_reducible exact After.calls (join1 j5.out _)) | (with_reducible exact After.calls (join1 j6.out _))) | (go_at_call 12; first | (with_reducible exact After.calls (below1 l1.out _)) | (with_reducible exact After.calls (below1 l2.out _)) | (with_reducible exact After.calls (below1 l3.out _)) | (with_reducible exact After.calls (below1 l4.out _)) | (with_reducible exact After.calls (below1 l5.out _)) | (with_reducible exact After.calls (below1 l6.out _)) | (with_reducible exact After.calls (below1 l7.out _)) | (with_reducible exact After.calls (below1 l8.out _))) | (go_at_call 13; first | (with_reducible exact After.calls (has1 g1.out _)) | (with_reducible exact After.calls (has1 g2.out _)) | (with_reducible exact After.calls (has1 g3.out _)) | (with_reducible exact After.calls (has1 g5.out _))) | (go_at_call 15; with_reducible exact After.calls (awake0 _))))
      refine wpQuiet_nil (after_cells ?_)
      intro w4 hb4 hc4
      go_wp2_with fail
      go_ret
      exact ⟨rfl, (q3.alloc q3.size _).trans (hb4.mono (by have := q3.size; simp; omega))⟩
  have d1 : decide (n < 0) = false := by simpa using t1
  by_cases t2 : 8 ≤ n
  · have d2 : decide (8 ≤ n) = true := by simpa using t2
    cases βab with
    | false =>
      refine wp_draws _ (Below.refl _ _) (by kernel_rfl) (by kernel_rfl) (fun hne hN => ?_)
      have he' := he.out
      repeat (go_big_quiet_step (first | (go_at_call 11; first | (with_reducible exact After.calls (join1 j2.out _)) | (with_reducible exact After.calls (join1 j3.out _)) | (with_reducible exact After.calls (join1 j4.out _)) | (with_reducible exact After.calls (join1 j5.out _)) | (with_reducible exact After.calls (join1 j6.out _))) | (go_at_call 12; first | (with_reducible exact After.calls (below1 l1.out _)) | (with_reducible exact After.calls (below1 l2.out _)) | (with_reducible exact After.calls (below1 l3.out _)) | (with_reducible exact After.calls (below1 l4.out _)) | (with_reducible exact After.calls (below1 l5.out _)) | (with_reducible exact After.calls (below1 l6.out _)) | (with_reducible exact After.calls (below1 l7.out _)) | (with_reducible exact After.calls (below1 l8.out _))) | (go_at_call 13; first | (with_reducible exact After.calls (has1 g1.out _)) | (with_reducible exact After.calls (has1 g2.out _)) | (with_reducible exact After.calls (has1 g3.out _)) | (with_reducible exact After.calls (has1 g5.out _))) | (go_at_call 15; with_reducible exact After.calls (awake0 _))))
      refine wpQuiet_nil (after_cells ?_)
      intro w4 hb4 hc4
      go_wp2_with fail
      go_ret
      exact ⟨rfl, (q3.alloc q3.size _).trans (hb4.mono (by have := q3.size; simp; omega))⟩
    | true =>
      refine wp_draws _ (Below.refl _ _) (by kernel_rfl) (by kernel_rfl) (fun hne hN => ?_)
      have he' := he.out
      repeat (go_big_quiet_step (first | (go_at_call 11; first | (with_reducible exact After.calls (join1 j2.out _)) | (with_reducible exact After.calls (join1 j3.out _)) | (with_reducible exact After.calls (join1 j4.out _)) | (with_reducible exact After.calls (join1 j5.out _)) | (with_reducible exact After.calls (join1 j6.out _))) | (go_at_call 12; first | (with_reducible exact After.calls (below1 l1.out _)) | (with_reducible exact After.calls (below1 l2.out _)) | (with_reducible exact After.calls (below1 l3.out _)) | (with_reducible exact After.calls (below1 l4.out _)) | (with_reducible exact After.calls (below1 l5.out _)) | (with_reducible exact After.calls (below1 l6.out _)) | (with_reducible exact After.calls (below1 l7.out _)) | (with_reducible exact After.calls (below1 l8.out _))) | (go_at_call 13; first | (with_reducible exact After.calls (has1 g1.out _)) | (with_reducible exact After.calls (has1 g2.out _)) | (with_reducible exact After.calls (has1 g3.out _)) | (with_reducible exact After.calls (has1 g5.out _))) | (go_at_call 15; with_reducible exact After.calls (awake0 _))))
      refine wpQuiet_nil (after_cells ?_)
      intro w4 hb4 hc4
      go_wp2_with fail
      go_ret
      exact ⟨rfl, (q3.alloc q3.size _).trans (hb4.mono (by have := q3.size; simp; omega))⟩
  have d2 : decide (8 ≤ n) = false := by simpa using t2
  by_cases t3 : k < 1
  · have d3 : decide (k < 1) = true := by simpa using t3
    cases βab with
    | false =>
      refine wp_draws _ (Below.refl _ _) (by kernel_rfl) (by kernel_rfl) (fun hne hN => ?_)
      have he' := he.out
      repeat (go_big_quiet_step (first | (go_at_call 11; first | (with_reducible exact After.calls (join1 j2.out _)) | (with_reducible exact After.calls (join1 j3.out _)) | (with_reducible exact After.calls (join1 j4.out _)) | (with_reducible exact After.calls (join1 j5.out _)) | (with_reducible exact After.calls (join1 j6.out _))) | (go_at_call 12; first | (with_reducible exact After.calls (below1 l1.out _)) | (with_reducible exact After.calls (below1 l2.out _)) | (with_reducible exact After.calls (below1 l3.out _)) | (with_reducible exact After.calls (below1 l4.out _)) | (with_reducible exact After.calls (below1 l5.out _)) | (with_reducible exact After.calls (below1 l6.out _)) | (with_reducible exact After.calls (below1 l7.out _)) | (with_reducible exact After.calls (below1 l8.out _))) | (go_at_call 13; first | (with_reducible exact After.calls (has1 g1.out _)) | (with_reducible exact After.calls (has1 g2.out _)) | (with_reducible exact After.calls (has1 g3.out _)) | (with_reducible exact After.calls (has1 g5.out _))) | (go_at_call 15; with_reducible exact After.calls (awake0 _))))
      refine wpQuiet_nil (after_cells ?_)
      intro w4 hb4 hc4
      go_wp2_with fail
      go_ret
      exact ⟨rfl, (q3.alloc q3.size _).trans (hb4.mono (by have := q3.size; simp; omega))⟩
    | true =>
      refine wp_draws _ (Below.refl _ _) (by kernel_rfl) (by kernel_rfl) (fun hne hN => ?_)
      have he' := he.out
      repeat (go_big_quiet_step (first | (go_at_call 11; first | (with_reducible exact After.calls (join1 j2.out _)) | (with_reducible exact After.calls (join1 j3.out _)) | (with_reducible exact After.calls (join1 j4.out _)) | (with_reducible exact After.calls (join1 j5.out _)) | (with_reducible exact After.calls (join1 j6.out _))) | (go_at_call 12; first | (with_reducible exact After.calls (below1 l1.out _)) | (with_reducible exact After.calls (below1 l2.out _)) | (with_reducible exact After.calls (below1 l3.out _)) | (with_reducible exact After.calls (below1 l4.out _)) | (with_reducible exact After.calls (below1 l5.out _)) | (with_reducible exact After.calls (below1 l6.out _)) | (with_reducible exact After.calls (below1 l7.out _)) | (with_reducible exact After.calls (below1 l8.out _))) | (go_at_call 13; first | (with_reducible exact After.calls (has1 g1.out _)) | (with_reducible exact After.calls (has1 g2.out _)) | (with_reducible exact After.calls (has1 g3.out _)) | (with_reducible exact After.calls (has1 g5.out _))) | (go_at_call 15; with_reducible exact After.calls (awake0 _))))
      refine wpQuiet_nil (after_cells ?_)
      intro w4 hb4 hc4
      go_wp2_with fail
      go_ret
      exact ⟨rfl, (q3.alloc q3.size _).trans (hb4.mono (by have := q3.size; simp; omega))⟩
  have d3 : decide (k < 1) = false := by simpa using t3
  have g5 : Hid (hasV r n k = true) := g4.out (by omega) (by omega) (by omega)
  clear t1 t2 t3
  cases βab with
  | false =>
    refine wp_draws _ (Below.refl _ _) (by kernel_rfl) (by kernel_rfl) (fun hne hN => ?_)
    have he' := he.out
    repeat (go_big_quiet_step (first | (go_at_call 11; first | (with_reducible exact After.calls (join1 j2.out _)) | (with_reducible exact After.calls (join1 j3.out _)) | (with_reducible exact After.calls (join1 j4.out _)) | (with_reducible exact After.calls (join1 j5.out _)) | (with_reducible exact After.calls (join1 j6.out _))) | (go_at_call 12; first | (with_reducible exact After.calls (below1 l1.out _)) | (with_reducible exact After.calls (below1 l2.out _)) | (with_reducible exact After.calls (below1 l3.out _)) | (with_reducible exact After.calls (below1 l4.out _)) | (with_reducible exact After.calls (below1 l5.out _)) | (with_reducible exact After.calls (below1 l6.out _)) | (with_reducible exact After.calls (below1 l7.out _)) | (with_reducible exact After.calls (below1 l8.out _))) | (go_at_call 13; first | (with_reducible exact After.calls (has1 g1.out _)) | (with_reducible exact After.calls (has1 g2.out _)) | (with_reducible exact After.calls (has1 g3.out _)) | (with_reducible exact After.calls (has1 g5.out _))) | (go_at_call 15; with_reducible exact After.calls (awake0 _))))
    refine wpQuiet_nil (after_cells ?_)
    intro w4 hb4 hc4
    go_wp2_with fail
    go_ret
    exact ⟨rfl, (q3.alloc q3.size _).trans (hb4.mono (by have := q3.size; simp; omega))⟩
  | true =>
    refine wp_draws _ (Below.refl _ _) (by kernel_rfl) (by kernel_rfl) (fun hne hN => ?_)
    have he' := he.out
    repeat (go_big_quiet_step (first | (go_at_call 11; first | (with_reducible exact After.calls (join1 j2.out _)) | (with_reducible exact After.calls (join1 j3.out _)) | (with_reducible exact After.calls (join1 j4.out _)) | (with_reducible exact After.calls (join1 j5.out _)) | (with_reducible exact After.calls (join1 j6.out _))) | (go_at_call 12; first | (with_reducible exact After.calls (below1 l1.out _)) | (with_reducible exact After.calls (below1 l2.out _)) | (with_reducible exact After.calls (below1 l3.out _)) | (with_reducible exact After.calls (below1 l4.out _)) | (with_reducible exact After.calls (below1 l5.out _)) | (with_reducible exact After.calls (below1 l6.out _)) | (with_reducible exact After.calls (below1 l7.out _)) | (with_reducible exact After.calls (below1 l8.out _))) | (go_at_call 13; first | (with_reducible exact After.calls (has1 g1.out _)) | (with_reducible exact After.calls (has1 g2.out _)) | (with_reducible exact After.calls (has1 g3.out _)) | (with_reducible exact After.calls (has1 g5.out _))) | (go_at_call 15; with_reducible exact After.calls (awake0 _))))
    refine wpQuiet_nil (after_cells ?_)
    intro w4 hb4 hc4
    go_wp2_with fail
    go_ret
    exact ⟨rfl, (q3.alloc q3.size _).trans (hb4.mono (by have := q3.size; simp; omega))⟩
end Go.Proofs.Ytngoopfdfihkpaa.WClockJoins
