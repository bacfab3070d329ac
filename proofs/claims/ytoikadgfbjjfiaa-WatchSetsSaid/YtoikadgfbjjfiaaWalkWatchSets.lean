/- WatchSets: the walk of the law: set again it is the new moment alone; cut it is never due. No condition. -/
import Derived.Test.YtoikadgfbjjfiaaHpO
namespace Go.Proofs.Ytoikadgfbjjfiaa.WWatchSets
open Go.RowKit Kit Wat Wat.Ints
set_option linter.unusedVariables false
theorem s1 (i a : Int) (h : true = okM i a) : [⟨i, a⟩] = setLq i a [] := by rw [setLq_ok h.symm]; rfl
theorem s2 (i a b : Int) (h : true = okM i b) : [⟨i, b⟩] = setLq i b [⟨i, a⟩] := by rw [setLq_ok h.symm]; simp [setL, without, ins]
theorem cu (i b : Int) : [] = without i [⟨i, b⟩] := by simp [without]
theorem hs (i b : Int) : true = has i [⟨i, b⟩] := by simp [has]
theorem a1 (i b : Int) : atL i [⟨i, b⟩] = some b := by simp [atL]
theorem d0 (n : Int) : dueL n [] = [] ∧ restL n [] = [] := ⟨rfl, rfl⟩
theorem d1 (i b : Int) : dueL (b - 1) [⟨i, b⟩] = [] ∧ restL (b - 1) [⟨i, b⟩] = [⟨i, b⟩] := by
  have h1 : ¬ b ≤ b - 1 := by omega
  have h2 : b - 1 < b := by omega
  simp [dueL, restL, h1, h2]
theorem d2 (i b : Int) : dueL b [⟨i, b⟩] = [i] ∧ restL b [⟨i, b⟩] = [] := by simp [dueL, restL]
set_option maxRecDepth 100000 in
set_option maxHeartbeats 2000000 in
theorem law (i0 f0 s0 : Int) (q : Bool) (w : World) :
    Calls Try.prog 7 #[.int .i64 i0, .int .i64 f0, .int .i64 s0, .bool q] w fun e w' => e = .returned (.bool true) ∧ Below w.heap.size w w' := by
  go_enter Try.func7, Try.ntmps7
  go_upto_region 2 with fail
  obtain ⟨i, i1, i2, ei⟩ := modm i0 1000 (by omega) (by omega)
  obtain ⟨f, f1, f2, ef⟩ := modm f0 1099511627776 (by omega) (by omega)
  obtain ⟨s, y1, y2, es⟩ := modm s0 1099511627776 (by omega) (by omega)
  rw [ei, ef, es]
  have hok1 : okM i f = true := okM_iff.2 ⟨by omega, by omega, by omega, by omega⟩
  have hok2 : okM i s = true := okM_iff.2 ⟨by omega, by omega, by omega, by omega⟩
  have HO1 := Hid.mk_ hok1.symm
  have HO2 := Hid.mk_ hok2.symm
  have HB := Hid.mk_ (And.intro y1 y2)
  clear ei ef es hok1 hok2 i1 i2 f1 f2 y1 y2
  go_upto_region 3 with (go_at_call 16; refine (new0 _).mono ?_; rintro e w1 ⟨g, rfl, h1, hg, b1⟩)
  go_upto_region 5 with (first
    | (go_at_call 17; refine (set0 _ g none [] i f h1 true HO1 [⟨i, f⟩] (Hid.mk_ (s1 i f HO1.out))).mono ?_; rintro e w2 ⟨rfl, t2⟩; obtain ⟨A2, k2, f2, r2⟩ := t2.out; have c2 := h1.out.wrBelow r2 hg.out; have h2 := Hid.mk_ k2; clear h1)
    | (go_at_call 17; refine (set0 _ g A2 _ i s h2 true HO2 [⟨i, s⟩] (Hid.mk_ (s2 i f s HO2.out))).mono ?_; rintro e w3 ⟨rfl, t3⟩; obtain ⟨A3, k3, f3, r3⟩ := t3.out; have c3 := k2.wrBelow r3 hg.out; have h3 := Hid.mk_ k3)
    | (go_at_call 19; refine (len _ g A3 _ h3 1 (Hid.mk_ rfl)).mono ?_; rintro e w4 ⟨rfl, rfl⟩))
  have B3 := Hid.mk_ ((b1.trans c2).trans c3)
  have G3 := hg
  clear t2 k2 f2 t3 f3 r2 r3 b1 c2 c3 h2
  cases q with
  | true =>
    go_wp2_with (first
      | (go_at_call 20; refine (cut0 _ g A3 _ i h3 true (Hid.mk_ (hs i s)) [] (Hid.mk_ (cu i s))).mono ?_; rintro e w5 ⟨rfl, t5⟩; obtain ⟨A5, k5, f5, r5⟩ := t5.out; have c5 := k3.wrBelow r5 hg.out; have h5 := Hid.mk_ k5; clear h3)
      | (go_at_call 20; refine (cut0 _ g A5 _ i h5 false (Hid.mk_ rfl) [] (Hid.mk_ rfl)).mono ?_; rintro e w6 ⟨rfl, t6⟩; obtain ⟨A6, k6, f6, r6⟩ := t6.out; have c6 := k5.wrBelow r6 hg.out; have h6 := Hid.mk_ k6)
      | (go_at_call 18; refine (due0 _ g A6 _ 1099511627776 h6 [] (Hid.mk_ rfl) [] (Hid.mk_ rfl)).mono ?_; rintro e w7 ⟨B, n, c, rfl, o7, h7, r7⟩; have c7 := k6.wrBelow r7.out hg.out; obtain ⟨en, _, _⟩ := o7.out.row; simp only [List.length_nil] at en; subst en)
      | (go_at_call 15; refine (awake _).mono ?_; rintro e w8 ⟨rfl, b8⟩))
    go_ret
    have z := (((B3.out.trans c5).trans c6).trans c7)
    exact ⟨rfl, z.trans (b8.mono z.size)⟩
  | false =>
    go_upto_region 8 with (go_at_call 25; refine (at0 _ g A3 _ i h3 s true (Hid.mk_ (by rw [a1]; rfl)) (Hid.mk_ (by rw [a1]; rfl))).mono ?_; rintro e w5 ⟨rfl, b5⟩)
    have h5 := Hid.mk_ (h3.out.below b5)
    have B5 := Hid.mk_ (B3.out.trans (b5.mono B3.out.size))
    clear h3 B3
    by_cases hs0 : s = 0
    · subst hs0
      go_wp2_with (first
        | (go_at_call 18; refine (due0 _ g A3 _ 0 h5 [i] (Hid.mk_ (d2 i 0).1) [] (Hid.mk_ (d2 i 0).2)).mono ?_; rintro e w7 ⟨B, n, c, rfl, o7, h7, r7⟩; have c7 := h5.out.wrBelow r7.out hg.out; obtain ⟨en, hr, _⟩ := o7.out.row; simp only [List.length_cons, List.length_nil] at en; subst en)
        | (go_at_call 22; refine (same _ _ 1 _ 1 _ [i] [i] _ (Hid.mk_ (hr.below ((Below.refl _ _).alloc (Nat.le_refl _) _))) (Hid.mk_ rfl) (by omega) (Hid.mk_ (Row.one _ _ _)) (Hid.mk_ rfl) (by omega) true (Hid.mk_ (by simp))).mono ?_; rintro e w8 ⟨rfl, b8⟩)
        | (go_at_call 15; refine (awake _).mono ?_; rintro e w9 ⟨rfl, b9⟩))
      go_ret
      have z := (B5.out.trans c7)
      have z2 := z.alloc z.size (.cells #[.int .i64 i] 3)
      have z3 := z2.trans (b8.mono z2.size)
      exact ⟨rfl, z3.trans (b9.mono z3.size)⟩
    · have hs1 : ¬ (s = 0) := hs0
      have hs2 : (s == 0) = false := by simp [hs0]
      have hs3 : wrap64 (s - 1) = s - 1 := by have := HB.out; unfold wrap64; omega
      have HD := Hid.mk_ (d1 i s)
      have HS := Hid.mk_ hs3
      clear hs0 hs3
      go_wp2_with (first
        | (go_at_call 18; rw [HS.out]; refine (due0 _ g A3 _ (s - 1) h5 [] (Hid.mk_ HD.out.1) [⟨i, s⟩] (Hid.mk_ HD.out.2)).mono ?_; rintro e w6 ⟨B6, n6, c6, rfl, o6, h6, r6⟩; have c6 := h5.out.wrBelow r6.out hg.out; obtain ⟨en, hr6, _⟩ := o6.out.row; simp only [List.length_nil] at en; subst en; clear h5)
        | (go_at_call 18; refine (due0 _ g A3 _ s h6 [i] (Hid.mk_ (d2 i s).1) [] (Hid.mk_ (d2 i s).2)).mono ?_; rintro e w7 ⟨B, n, c, rfl, o7, h7, r7⟩; have c7 := h6.out.wrBelow r7.out hg.out; obtain ⟨en, hr, _⟩ := o7.out.row; simp only [List.length_cons, List.length_nil] at en; subst en)
        | (go_at_call 22; refine (same _ _ 1 _ 1 _ [i] [i] _ (Hid.mk_ (hr.below ((Below.refl _ _).alloc (Nat.le_refl _) _))) (Hid.mk_ rfl) (by omega) (Hid.mk_ (Row.one _ _ _)) (Hid.mk_ rfl) (by omega) true (Hid.mk_ (by simp))).mono ?_; rintro e w8 ⟨rfl, b8⟩)
        | (go_at_call 15; refine (awake _).mono ?_; rintro e w9 ⟨rfl, b9⟩))
      go_ret
      have z := (B5.out.trans c6).trans c7
      have z2 := z.alloc z.size (.cells #[.int .i64 i] 3)
      have z3 := z2.trans (b8.mono z2.size)
      exact ⟨rfl, z3.trans (b9.mono z3.size)⟩
theorem walk (w : World) (a : Int) (ha : (Lit.int .i64 a).wf = true) (b : Int) (hb : (Lit.int .i64 b).wf = true) (c : Int) (hc : (Lit.int .i64 c).wf = true) (q : Bool) :
    Calls Try.prog 7 #[.int .i64 a, .int .i64 b, .int .i64 c, .bool q] w fun e w' => e = .returned (.bool true) ∧ Below w.heap.size w w' := law a b c q w
end Go.Proofs.Ytoikadgfbjjfiaa.WWatchSets
