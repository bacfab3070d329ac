/- Chapter 1, the document's own Refute, at one's own name. No condition. -/
import Derived.Test.YthndjhocmpelcaaGreatGh
import Derived.Test.YthndjhocmpelcaaGreatRth
namespace Go.Proofs.YthndjhocmpelcaaGreat.Swi
open Go.RowKit Kit Hth Tri3
set_option linter.unusedVariables false
set_option maxRecDepth 100000 in
set_option maxHeartbeats 4000000 in
theorem refuteR (self inc i h : Int) (w : World) (hs : Hid (0 ≤ self ∧ self ≤ 7)) (hi : Hid (0 ≤ inc ∧ inc ≤ 1000000)) (hm : Hid (true = mayC self i h)) (r e0 : Int) (hr : Hid (r = rfI inc i h)) (he : Hid (e0 = rfE inc i h)) :
    Calls Tryz.prog 65 #[.int .i64 self, .int .i64 inc, .agg #[.int .i64 self, .int .i64 i, .int .i64 h]] w fun e w' => e = .returned (.tuple #[.int .i64 r, .int .i64 e0]) ∧ Below w.heap.size w w' := by
  have HN : Hid (true = nodeB self) := Hid.mk_ (by have := hs.out; unfold nodeB; simp; omega)
  have hb := Hid.mk_ ((Below.refl w.heap.size w).alloc (Nat.le_refl _) (.cells #[.int .i64 self, .int .i64 i, .int .i64 h] 30))
  have x0 : (w.alloc (.cells #[.int .i64 self, .int .i64 i, .int .i64 h] 30)).cell? ⟨w.heap.size, 0, none⟩ = some (.int .i64 self) := by rw [World.cell?_alloc_new]; rfl
  have x1 : (w.alloc (.cells #[.int .i64 self, .int .i64 i, .int .i64 h] 30)).cell? ⟨w.heap.size, 1, none⟩ = some (.int .i64 i) := by rw [World.cell?_alloc_new]; rfl
  have x2 : (w.alloc (.cells #[.int .i64 self, .int .i64 i, .int .i64 h] 30)).cell? ⟨w.heap.size, 2, none⟩ = some (.int .i64 h) := by rw [World.cell?_alloc_new]; rfl
  have i0 : ¬ inc < 0 := by have := hi.out; omega
  have i1 : ¬ 1000000 < inc := by have := hi.out; omega
  have HI := Hid.mk_ hi.out
  have ib : Hid (0 ≤ i ∧ i ≤ 1000000 ∨ (i = 0)) := Hid.mk_ (by have := hm.out; unfold mayC at this; simp at this; omega)
  go_enter Tryz.func65, Tryz.ntmps65
  go_upto_region 1 with fail
  generalize hz : w.heap.size = z at *
  generalize w.alloc (.cells #[.int .i64 self, .int .i64 i, .int .i64 h] 30) = w1 at *
  have BR : ∀ w2, Below w1.heap.size w1 w2 → Below w.heap.size w w2 := fun w2 b2 => by
    have := hb.out
    rw [hz]
    exact this.trans (b2.mono (by have := this.size; omega))
  have HBR := Hid.mk_ BR
  clear BR hz
  by_cases hd : h = 2
  · have d2 : (h == 2) = true := by simp [hd]
    have d2n : (h != 2) = false := by simp [hd]
    by_cases hle : inc ≤ i
    · have hle2 : ¬ i < inc := by omega
      have hdb : dbt inc i h = true := by unfold dbt; simp [hd, hle]
      by_cases hmx : i = 1000000
      · have er : r = inc := by rw [hr.out]; unfold rfI; rw [hdb, if_pos rfl, if_pos hmx]
        have ee : e0 = 6 := by rw [he.out]; unfold rfE; rw [hdb, if_pos rfl, if_pos hmx]
        have hmb : (i == 1000000) = true := by simp [hmx]
        subst er ee
        clear hr he hdb hmx hd
        go_wp2_with (first | (go_at_call 31; refine (Rth.node1 self _ true HN).mono ?_; rintro e w2 ⟨rfl, rfl⟩) | (go_at_call 37; refine (Rth.may1 _ _ _ _ true hm).mono ?_; rintro e w3 ⟨rfl, b3⟩; have y0 := keepC b3 x0; have y1 := keepC b3 x1; have y2 := keepC b3 x2))
        go_ret2
        exact ⟨rfl, HBR.out _ b3⟩
      · have er : r = i + 1 := by rw [hr.out]; unfold rfI; rw [hdb, if_pos rfl, if_neg hmx]
        have ee : e0 = 0 := by rw [he.out]; unfold rfE; rw [hdb, if_pos rfl, if_neg hmx]
        have hmb : (i == 1000000) = false := by simp [hmx]
        have hw : IntKind.i64.wrap (i + 1) = i + 1 := IntWalk.i64_in _ (by have := ib.out; omega)
        have hib : 0 ≤ i ∧ i < 1000000 := by have := ib.out; have := HI.out; omega
        subst er ee
        clear hr he hdb hmx hd
        go_wp2_with (first | (go_at_call 31; refine (Rth.node1 self _ true HN).mono ?_; rintro e w2 ⟨rfl, rfl⟩) | (go_at_call 37; refine (Rth.may1 _ _ _ _ true hm).mono ?_; rintro e w3 ⟨rfl, b3⟩; have y0 := keepC b3 x0; have y1 := keepC b3 x1; have y2 := keepC b3 x2))
        go_ret2
        exact ⟨rfl, HBR.out _ b3⟩
    · have hle2 : i < inc := by omega
      have hdb : dbt inc i h = false := by unfold dbt; simp [hle]
      have er : r = inc := by rw [hr.out]; unfold rfI; rw [hdb]; rfl
      have ee : e0 = 0 := by rw [he.out]; unfold rfE; rw [hdb]; rfl
      subst er ee
      clear hr he hdb hd
      go_wp2_with (first | (go_at_call 31; refine (Rth.node1 self _ true HN).mono ?_; rintro e w2 ⟨rfl, rfl⟩) | (go_at_call 37; refine (Rth.may1 _ _ _ _ true hm).mono ?_; rintro e w3 ⟨rfl, b3⟩; have y0 := keepC b3 x0; have y1 := keepC b3 x1; have y2 := keepC b3 x2))
      go_ret2
      exact ⟨rfl, HBR.out _ b3⟩
  · have d2 : (h == 2) = false := by simp [hd]
    have d2n : (h != 2) = true := by simp [hd]
    by_cases hd3 : h = 3
    · have d3 : (h == 3) = true := by simp [hd3]
      have d3n : (h != 3) = false := by simp [hd3]
      by_cases hle : inc ≤ i
      · have hle2 : ¬ i < inc := by omega
        have hdb : dbt inc i h = true := by unfold dbt; simp [hd3, hle]
        by_cases hmx : i = 1000000
        · have er : r = inc := by rw [hr.out]; unfold rfI; rw [hdb, if_pos rfl, if_pos hmx]
          have ee : e0 = 6 := by rw [he.out]; unfold rfE; rw [hdb, if_pos rfl, if_pos hmx]
          have hmb : (i == 1000000) = true := by simp [hmx]
          subst er ee
          clear hr he hdb hmx hd3 hd
          go_wp2_with (first | (go_at_call 31; refine (Rth.node1 self _ true HN).mono ?_; rintro e w2 ⟨rfl, rfl⟩) | (go_at_call 37; refine (Rth.may1 _ _ _ _ true hm).mono ?_; rintro e w3 ⟨rfl, b3⟩; have y0 := keepC b3 x0; have y1 := keepC b3 x1; have y2 := keepC b3 x2))
          go_ret2
          exact ⟨rfl, HBR.out _ b3⟩
        · have er : r = i + 1 := by rw [hr.out]; unfold rfI; rw [hdb, if_pos rfl, if_neg hmx]
          have ee : e0 = 0 := by rw [he.out]; unfold rfE; rw [hdb, if_pos rfl, if_neg hmx]
          have hmb : (i == 1000000) = false := by simp [hmx]
          have hw : IntKind.i64.wrap (i + 1) = i + 1 := IntWalk.i64_in _ (by have := ib.out; omega)
          have hib : 0 ≤ i ∧ i < 1000000 := by have := ib.out; have := HI.out; omega
          subst er ee
          clear hr he hdb hmx hd3 hd
          go_wp2_with (first | (go_at_call 31; refine (Rth.node1 self _ true HN).mono ?_; rintro e w2 ⟨rfl, rfl⟩) | (go_at_call 37; refine (Rth.may1 _ _ _ _ true hm).mono ?_; rintro e w3 ⟨rfl, b3⟩; have y0 := keepC b3 x0; have y1 := keepC b3 x1; have y2 := keepC b3 x2))
          go_ret2
          exact ⟨rfl, HBR.out _ b3⟩
      · have hle2 : i < inc := by omega
        have hdb : dbt inc i h = false := by unfold dbt; simp [hle]
        have er : r = inc := by rw [hr.out]; unfold rfI; rw [hdb]; rfl
        have ee : e0 = 0 := by rw [he.out]; unfold rfE; rw [hdb]; rfl
        subst er ee
        clear hr he hdb hd3 hd
        go_wp2_with (first | (go_at_call 31; refine (Rth.node1 self _ true HN).mono ?_; rintro e w2 ⟨rfl, rfl⟩) | (go_at_call 37; refine (Rth.may1 _ _ _ _ true hm).mono ?_; rintro e w3 ⟨rfl, b3⟩; have y0 := keepC b3 x0; have y1 := keepC b3 x1; have y2 := keepC b3 x2))
        go_ret2
        exact ⟨rfl, HBR.out _ b3⟩
    · have d3 : (h == 3) = false := by simp [hd3]
      have d3n : (h != 3) = true := by simp [hd3]
      have hdb : dbt inc i h = false := by unfold dbt; simp [hd, hd3]
      have er : r = inc := by rw [hr.out]; unfold rfI; rw [hdb]; rfl
      have ee : e0 = 0 := by rw [he.out]; unfold rfE; rw [hdb]; rfl
      subst er ee
      clear hr he hdb hd3 hd
      go_wp2_with (first | (go_at_call 31; refine (Rth.node1 self _ true HN).mono ?_; rintro e w2 ⟨rfl, rfl⟩) | (go_at_call 37; refine (Rth.may1 _ _ _ _ true hm).mono ?_; rintro e w3 ⟨rfl, b3⟩; have y0 := keepC b3 x0; have y1 := keepC b3 x1; have y2 := keepC b3 x2))
      go_ret2
      exact ⟨rfl, HBR.out _ b3⟩
end Go.Proofs.YthndjhocmpelcaaGreat.Swi
