/- Chapter 1: what may be claimed, what is louder: the document's own functions. No condition. -/
import Derived.Test.YthndjhocmpelcaaGreatGa
namespace Go.Proofs.YthndjhocmpelcaaGreat.Rth
open Go.RowKit Kit Hth
set_option linter.unusedVariables false
theorem Hid.mk0 {p : Prop} (h : p) : Hid p := h
theorem node1 (n : Int) (w : World) (q : Bool) (hq : Hid (q = nodeB n)) : Calls Tryz.prog 31 #[.int .i64 n] w fun e w' => e = .returned (.bool q) ∧ w' = w := by
  by_cases h0 : 0 ≤ n
  · by_cases h1 : n < 8
    · go_enter Tryz.func31, Tryz.ntmps31
      go_wp2_with fail
      go_ret
      exact ⟨by rw [hq.out]; simp [nodeB, h0, h1], rfl⟩
    · go_enter Tryz.func31, Tryz.ntmps31
      go_wp2_with fail
      go_ret
      exact ⟨by rw [hq.out]; simp [nodeB, h1], rfl⟩
  · go_enter Tryz.func31, Tryz.ntmps31
    go_wp2_with fail
    go_ret
    exact ⟨by rw [hq.out]; simp [nodeB]; omega, rfl⟩
theorem nothing1 (n i h : Int) (w : World) (q : Bool) (hq : Hid (q = decide (i = 0 ∧ h = 0))) : Calls Tryz.prog 38 #[.agg #[.int .i64 n, .int .i64 i, .int .i64 h]] w fun e w' => e = .returned (.bool q) ∧ Below w.heap.size w w' := by
  by_cases hi : i = 0
  · have e : q = (h == 0) := by rw [hq.out]; rw [Bool.eq_iff_iff]; simp [hi]
    have hb : (i == 0) = true := by simp [hi]
    subst e
    clear hq hi
    go_enter Tryz.func38, Tryz.ntmps38
    go_wp2_with fail
    go_ret
    exact ⟨rfl, (Below.refl _ w).alloc (Nat.le_refl _) _⟩
  · have e : q = false := by rw [hq.out]; simp [hi]
    have hb : (i == 0) = false := by simp [hi]
    subst e
    clear hq hi
    go_enter Tryz.func38, Tryz.ntmps38
    go_wp2_with fail
    go_ret
    exact ⟨rfl, (Below.refl _ w).alloc (Nat.le_refl _) _⟩
theorem cmp1 (a b : Int) (w : World) (r : Int) (hr : Hid (r = cmpI a b)) : Calls Tryz.prog 85 #[.int .i64 a, .int .i64 b] w fun e w' => e = .returned (.int .i64 r) ∧ w' = w := by
  by_cases h1 : a < b
  · have e : r = -1 := by rw [hr.out, cmpI, if_pos h1]
    subst e
    clear hr
    go_enter Tryz.func85, Tryz.ntmps85
    go_wp2_with fail
    go_ret
    exact ⟨rfl, rfl⟩
  · by_cases h2 : b < a
    · have e : r = 1 := by rw [hr.out, cmpI, if_neg h1, if_pos h2]
      subst e
      clear hr
      go_enter Tryz.func85, Tryz.ntmps85
      go_wp2_with fail
      go_ret
      exact ⟨rfl, rfl⟩
    · have e : r = 0 := by rw [hr.out, cmpI, if_neg h1, if_neg h2]
      subst e
      clear hr
      go_enter Tryz.func85, Tryz.ntmps85
      go_wp2_with fail
      go_ret
      exact ⟨rfl, rfl⟩
theorem keep1 {w w' : World} {q o : Nat} {v : Value} (hb : Below w.heap.size w w') (h : w.cell? ⟨q, o, none⟩ = some v) : w'.cell? ⟨q, o, none⟩ = some v :=
  (hb.cell (p := ⟨q, o, none⟩) (World.block_lt_of_cell? w _ h)).trans h
set_option maxHeartbeats 1000000 in
theorem may1 (n i h : Int) (w : World) (q : Bool) (hq : Hid (q = mayC n i h)) : Calls Tryz.prog 37 #[.agg #[.int .i64 n, .int .i64 i, .int .i64 h]] w fun e w' => e = .returned (.bool q) ∧ Below w.heap.size w w' := by
  have x0 : (w.alloc (.cells #[.int .i64 n, .int .i64 i, .int .i64 h] 30)).cell? ⟨w.heap.size, 0, none⟩ = some (.int .i64 n) := by rw [World.cell?_alloc_new]; rfl
  have x1 : (w.alloc (.cells #[.int .i64 n, .int .i64 i, .int .i64 h] 30)).cell? ⟨w.heap.size, 1, none⟩ = some (.int .i64 i) := by rw [World.cell?_alloc_new]; rfl
  have x2 : (w.alloc (.cells #[.int .i64 n, .int .i64 i, .int .i64 h] 30)).cell? ⟨w.heap.size, 2, none⟩ = some (.int .i64 h) := by rw [World.cell?_alloc_new]; rfl
  have hal := Hid.mk0 ((Below.refl w.heap.size w).alloc (Nat.le_refl _) (.cells #[.int .i64 n, .int .i64 i, .int .i64 h] 30))
  cases hn : nodeB n with
  | false =>
    have e : q = false := by rw [hq.out]; unfold nodeB at hn; unfold mayC; simp only [decide_eq_false_iff_not] at hn ⊢; omega
    have HN := Hid.mk0 hn.symm
    subst e
    clear hq hn
    go_enter Tryz.func37, Tryz.ntmps37
    go_upto_region 1 with fail
    generalize hz : w.heap.size = z at *
    generalize w.alloc (.cells #[.int .i64 n, .int .i64 i, .int .i64 h] 30) = w1 at *
    go_wp2_with (go_at_call 31; refine (node1 n _ false HN).mono ?_; rintro e w2 ⟨rfl, rfl⟩)
    go_ret
    exact ⟨rfl, by rw [hz]; exact hal.out⟩
  | true =>
    have HN := Hid.mk0 hn.symm
    have hN : 0 ≤ n ∧ n < 8 := by unfold nodeB at hn; simpa using hn
    cases hno : decide (i = 0 ∧ h = 0) with
    | true =>
      have e : q = true := by rw [hq.out]; unfold mayC; simp at hno ⊢; omega
      have HO := Hid.mk0 hno.symm
      subst e
      clear hq hn hN hno
      go_enter Tryz.func37, Tryz.ntmps37
      go_upto_region 1 with fail
      generalize hz : w.heap.size = z at *
      generalize w.alloc (.cells #[.int .i64 n, .int .i64 i, .int .i64 h] 30) = w1 at *
      go_wp2_with (first | (go_at_call 31; refine (node1 n _ true HN).mono ?_; rintro e w2 ⟨rfl, rfl⟩) | (go_at_call 38; refine (nothing1 n i h _ true HO).mono ?_; rintro e w2 ⟨rfl, b2⟩; have y1 := keep1 b2 x1; have y2 := keep1 b2 x2))
      go_ret
      exact ⟨rfl, by first | (exact hal.out.trans (b2.mono (by have := hal.out.size; omega))) | (rw [hz]; exact hal.out.trans (b2.mono (by have := hal.out.size; omega)))⟩
    | false =>
      have HO := Hid.mk0 hno.symm
      have e : q = decide (0 ≤ i ∧ i ≤ 1000000 ∧ 1 ≤ h ∧ h ≤ 4) := by rw [hq.out]; unfold mayC; rw [Bool.eq_iff_iff]; simp at hno ⊢; omega
      have HE := Hid.mk0 e
      clear e
      by_cases i0 : 0 ≤ i
      · by_cases i1 : i ≤ 1000000
        · by_cases h1 : 1 ≤ h
          · have e : q = decide (h ≤ 4) := by rw [HE.out, Bool.eq_iff_iff]; simp; omega
            subst e
            clear hq hn hN hno
            go_enter Tryz.func37, Tryz.ntmps37
            go_upto_region 1 with fail
            generalize hz : w.heap.size = z at *
            generalize w.alloc (.cells #[.int .i64 n, .int .i64 i, .int .i64 h] 30) = w1 at *
            go_wp2_with (first | (go_at_call 31; refine (node1 n _ true HN).mono ?_; rintro e w2 ⟨rfl, rfl⟩) | (go_at_call 38; refine (nothing1 n i h _ false HO).mono ?_; rintro e w2 ⟨rfl, b2⟩; have y1 := keep1 b2 x1; have y2 := keep1 b2 x2))
            go_ret
            exact ⟨rfl, by first | (exact hal.out.trans (b2.mono (by have := hal.out.size; omega))) | (rw [hz]; exact hal.out.trans (b2.mono (by have := hal.out.size; omega)))⟩
          · have e : q = false := by rw [HE.out]; simp only [decide_eq_false_iff_not]; omega
            subst e
            clear hq hn hN hno
            go_enter Tryz.func37, Tryz.ntmps37
            go_upto_region 1 with fail
            generalize hz : w.heap.size = z at *
            generalize w.alloc (.cells #[.int .i64 n, .int .i64 i, .int .i64 h] 30) = w1 at *
            go_wp2_with (first | (go_at_call 31; refine (node1 n _ true HN).mono ?_; rintro e w2 ⟨rfl, rfl⟩) | (go_at_call 38; refine (nothing1 n i h _ false HO).mono ?_; rintro e w2 ⟨rfl, b2⟩; have y1 := keep1 b2 x1; have y2 := keep1 b2 x2))
            go_ret
            exact ⟨rfl, by first | (exact hal.out.trans (b2.mono (by have := hal.out.size; omega))) | (rw [hz]; exact hal.out.trans (b2.mono (by have := hal.out.size; omega)))⟩
        · have e : q = false := by rw [HE.out]; simp only [decide_eq_false_iff_not]; omega
          subst e
          clear hq hn hN hno
          go_enter Tryz.func37, Tryz.ntmps37
          go_upto_region 1 with fail
          generalize hz : w.heap.size = z at *
          generalize w.alloc (.cells #[.int .i64 n, .int .i64 i, .int .i64 h] 30) = w1 at *
          go_wp2_with (first | (go_at_call 31; refine (node1 n _ true HN).mono ?_; rintro e w2 ⟨rfl, rfl⟩) | (go_at_call 38; refine (nothing1 n i h _ false HO).mono ?_; rintro e w2 ⟨rfl, b2⟩; have y1 := keep1 b2 x1; have y2 := keep1 b2 x2))
          go_ret
          exact ⟨rfl, by first | (exact hal.out.trans (b2.mono (by have := hal.out.size; omega))) | (rw [hz]; exact hal.out.trans (b2.mono (by have := hal.out.size; omega)))⟩
      · have e : q = false := by rw [HE.out]; simp only [decide_eq_false_iff_not]; omega
        subst e
        clear hq hn hN hno
        go_enter Tryz.func37, Tryz.ntmps37
        go_upto_region 1 with fail
        generalize hz : w.heap.size = z at *
        generalize w.alloc (.cells #[.int .i64 n, .int .i64 i, .int .i64 h] 30) = w1 at *
        go_wp2_with (first | (go_at_call 31; refine (node1 n _ true HN).mono ?_; rintro e w2 ⟨rfl, rfl⟩) | (go_at_call 38; refine (nothing1 n i h _ false HO).mono ?_; rintro e w2 ⟨rfl, b2⟩; have y1 := keep1 b2 x1; have y2 := keep1 b2 x2))
        go_ret
        exact ⟨rfl, by first | (exact hal.out.trans (b2.mono (by have := hal.out.size; omega))) | (rw [hz]; exact hal.out.trans (b2.mono (by have := hal.out.size; omega)))⟩
theorem compare1 (n i h m j k : Int) (w : World) (r : Int) (hr : Hid (r = cmpC i h j k)) : Calls Tryz.prog 60 #[.agg #[.int .i64 n, .int .i64 i, .int .i64 h], .agg #[.int .i64 m, .int .i64 j, .int .i64 k]] w fun e w' => e = .returned (.int .i64 r) ∧ Below w.heap.size w w' := by
  have y0 : ((w.alloc (.cells #[.int .i64 n, .int .i64 i, .int .i64 h] 30)).alloc (.cells #[.int .i64 m, .int .i64 j, .int .i64 k] 30)).cell? ⟨w.heap.size, 1, none⟩ = some (.int .i64 i) := by
    rw [((Below.refl _ (w.alloc (.cells #[.int .i64 n, .int .i64 i, .int .i64 h] 30))).alloc (Nat.le_refl _) _).cell (by simp), World.cell?_alloc_new]; rfl
  have y1 : ((w.alloc (.cells #[.int .i64 n, .int .i64 i, .int .i64 h] 30)).alloc (.cells #[.int .i64 m, .int .i64 j, .int .i64 k] 30)).cell? ⟨w.heap.size, 2, none⟩ = some (.int .i64 h) := by
    rw [((Below.refl _ (w.alloc (.cells #[.int .i64 n, .int .i64 i, .int .i64 h] 30))).alloc (Nat.le_refl _) _).cell (by simp), World.cell?_alloc_new]; rfl
  have y2 : ((w.alloc (.cells #[.int .i64 n, .int .i64 i, .int .i64 h] 30)).alloc (.cells #[.int .i64 m, .int .i64 j, .int .i64 k] 30)).cell? ⟨w.heap.size + 1, 1, none⟩ = some (.int .i64 j) := by
    rw [show w.heap.size + 1 = (w.alloc (.cells #[.int .i64 n, .int .i64 i, .int .i64 h] 30)).heap.size by simp, World.cell?_alloc_new]; rfl
  have y3 : ((w.alloc (.cells #[.int .i64 n, .int .i64 i, .int .i64 h] 30)).alloc (.cells #[.int .i64 m, .int .i64 j, .int .i64 k] 30)).cell? ⟨w.heap.size + 1, 2, none⟩ = some (.int .i64 k) := by
    rw [show w.heap.size + 1 = (w.alloc (.cells #[.int .i64 n, .int .i64 i, .int .i64 h] 30)).heap.size by simp, World.cell?_alloc_new]; rfl
  have hb := Hid.mk0 (((Below.refl w.heap.size w).alloc (Nat.le_refl _) (.cells #[.int .i64 n, .int .i64 i, .int .i64 h] 30)).alloc (by simp) (.cells #[.int .i64 m, .int .i64 j, .int .i64 k] 30))
  go_enter Tryz.func60, Tryz.ntmps60
  go_upto_region 1 with fail
  generalize hz : w.heap.size = z at *
  generalize (w.alloc (.cells #[.int .i64 n, .int .i64 i, .int .i64 h] 30)).alloc (.cells #[.int .i64 m, .int .i64 j, .int .i64 k] 30) = w1 at *
  by_cases h4 : h = 4 <;> by_cases k4 : k = 4
  · have e : r = 0 := by rw [hr.out]; simp [cmpC, h4, k4]
    subst e h4 k4
    clear hr
    go_region
    go_wp2_with fail
    go_ret
    exact ⟨rfl, by rw [hz]; exact hb.out.drew⟩
  · have e : r = 1 := by rw [hr.out]; simp [cmpC, h4, k4]
    have hk : (k == 4) = false := by simp [k4]
    subst e h4
    clear hr k4
    go_region
    go_wp2_with fail
    go_ret
    exact ⟨rfl, by rw [hz]; exact hb.out.drew⟩
  · have e : r = -1 := by rw [hr.out]; simp [cmpC, h4, k4]
    have hk : (h == 4) = false := by simp [h4]
    subst e k4
    clear hr h4
    go_region
    go_wp2_with fail
    go_ret
    exact ⟨rfl, by rw [hz]; exact hb.out.drew⟩
  · have hk : (k == 4) = false := by simp [k4]
    have hh : (h == 4) = false := by simp [h4]
    by_cases hij : i = j
    · have HR : Hid (r = cmpI h k) := Hid.mk0 (by rw [hr.out]; simp [cmpC, cmpI, h4, k4, hij])
      subst hij
      clear hr h4 k4
      go_region
      go_wp2_with (go_at_call 85; refine (cmp1 _ _ _ r HR).mono ?_; rintro e w2 ⟨rfl, rfl⟩)
      go_ret
      exact ⟨rfl, by rw [hz]; exact hb.out.drew⟩
    · have HR : Hid (r = cmpI i j) := Hid.mk0 (by
        rw [hr.out]; unfold cmpC cmpI; rw [if_neg h4, if_neg k4]
        by_cases h5 : i < j
        · rw [if_pos h5, if_pos h5]
        · rw [if_neg h5, if_neg h5, if_pos (by omega), if_pos (by omega)])
      have hb2 : (i == j) = false := by simp [hij]
      clear hr h4 k4 hij
      go_region
      go_wp2_with (go_at_call 85; refine (cmp1 _ _ _ r HR).mono ?_; rintro e w2 ⟨rfl, rfl⟩)
      go_ret
      exact ⟨rfl, by rw [hz]; exact hb.out.drew⟩
end Go.Proofs.YthndjhocmpelcaaGreat.Rth
