-- PRINTED BY print.sh 35421559b90ae4d0a3588c463048766b98c2df88dd9212a6774a882060cdf62d: not written by this session
import Derived.Test.YtngoopfdfihkpaaPEntryBoundsx0
import Derived.Test.YtngoopfdfihkpaaPEntryBoundsx1
import Derived.Test.YtngoopfdfihkpaaPEntryBoundsx2
namespace Go.Proofs.Ytngoopfdfihkpaa.PEntryBounds
open Go.RowKit Go.Proofs.YtngoopfdfihkpaaW.PrintWords Go.Proofs.YtngoopfdfihkpaaW.PrintLast Go.Proofs.YtngoopfdfihkpaaW.PrintMore
attribute [local go_sem] max2_int min2_int max_two min_two max_three min_three max_four min_four   -- for this text's walks alone
set_option linter.unusedVariables false
set_option linter.unusedSimpArgs false

attribute [local go_sem high] eqA35
/-! ### starlinglaw9_EntryBounds: function 5 -/
mutual
def starlinglaw9_EntryBounds.j0 : Nat → Int → Int → Int → Bool → Int → Int → Int → Int → Option (Bool)
  | 0, _, _, _, _, _, _, _, _ => none
  | k + 1, x0, x2, x9, x10, x125000, x125001, x129000, x129001 => (entry_May.f x125000 x125001).bind fun t129 => (if (t129 != x10) = true then (some false) else (if x2 ≥ 0 then (starlinglaw9_EntryBounds.j1 k x0 x2 x9 x10 (decide (x2 < 8)) x129000 x129001) else (starlinglaw9_EntryBounds.j1 k x0 x2 x9 x10 false x129000 x129001)))
def starlinglaw9_EntryBounds.j1 : Nat → Int → Int → Int → Bool → Bool → Int → Int → Option (Bool)
  | 0, _, _, _, _, _, _, _ => none
  | k + 1, x0, x2, x9, x10, x11, x129000, x129001 => if x10 = true then (starlinglaw9_EntryBounds.j2 k x0 x2 x9 (!x11) x129000 x129001) else (starlinglaw9_EntryBounds.j2 k x0 x2 x9 true x129000 x129001)
def starlinglaw9_EntryBounds.j2 : Nat → Int → Int → Int → Bool → Int → Int → Option (Bool)
  | 0, _, _, _, _, _, _ => none
  | k + 1, x0, x2, x9, x53, x129000, x129001 => if x53 = true then (if x9 = 1 then (if (x129000 == 0 && (x129001 == 0)) = true then ((starlinglaw9_awake.f k).bind fun t130 => (some t130)) else (some false)) else (some false)) else (if x0 = 1000000 then (if x9 = 6 then (if (x129000 == 0 && (x129001 == 0)) = true then ((starlinglaw9_awake.f k).bind fun t131 => (some t131)) else (some false)) else (some false)) else (if x9 = 0 then (if (x129000 == (wrap64 (x0 + 1)) && (x129001 == x2)) = true then ((starlinglaw9_awake.f k).bind fun t132 => (some t132)) else (some false)) else (some false)))
end
def starlinglaw9_EntryBounds.f (k : Nat) (a0 : Int) (a1 : Int) (a2 : Int) : Option (Bool) := (entry_Flip.f k a0 a1 a2).bind fun bt125 => (if a0 = 0 then (if a1 = 0 then (starlinglaw9_EntryBounds.j0 k a0 a2 bt125.2.2 true a0 a1 bt125.1 bt125.2.1) else (if a0 ≥ 1 then (if a0 ≤ 1000000 then (if a1 ≥ 0 then (starlinglaw9_EntryBounds.j0 k a0 a2 bt125.2.2 (decide (a1 < 8)) a0 a1 bt125.1 bt125.2.1) else (starlinglaw9_EntryBounds.j0 k a0 a2 bt125.2.2 false a0 a1 bt125.1 bt125.2.1)) else (starlinglaw9_EntryBounds.j0 k a0 a2 bt125.2.2 false a0 a1 bt125.1 bt125.2.1)) else (starlinglaw9_EntryBounds.j0 k a0 a2 bt125.2.2 false a0 a1 bt125.1 bt125.2.1))) else (if a0 ≥ 1 then (if a0 ≤ 1000000 then (if a1 ≥ 0 then (starlinglaw9_EntryBounds.j0 k a0 a2 bt125.2.2 (decide (a1 < 8)) a0 a1 bt125.1 bt125.2.1) else (starlinglaw9_EntryBounds.j0 k a0 a2 bt125.2.2 false a0 a1 bt125.1 bt125.2.1)) else (starlinglaw9_EntryBounds.j0 k a0 a2 bt125.2.2 false a0 a1 bt125.1 bt125.2.1)) else (starlinglaw9_EntryBounds.j0 k a0 a2 bt125.2.2 false a0 a1 bt125.1 bt125.2.1)))
theorem starlinglaw9_EntryBounds.mono_l : ∀ k, (∀ y0 y1 y2 y3 y4 y5 y6 y7, LeO (starlinglaw9_EntryBounds.j0 k y0 y1 y2 y3 y4 y5 y6 y7) (starlinglaw9_EntryBounds.j0 (k + 1) y0 y1 y2 y3 y4 y5 y6 y7)) ∧ (∀ y0 y1 y2 y3 y4 y5 y6, LeO (starlinglaw9_EntryBounds.j1 k y0 y1 y2 y3 y4 y5 y6) (starlinglaw9_EntryBounds.j1 (k + 1) y0 y1 y2 y3 y4 y5 y6)) ∧ (∀ y0 y1 y2 y3 y4 y5, LeO (starlinglaw9_EntryBounds.j2 k y0 y1 y2 y3 y4 y5) (starlinglaw9_EntryBounds.j2 (k + 1) y0 y1 y2 y3 y4 y5))
  | 0 => ⟨fun _ _ _ _ _ _ _ _ r h => by simp [starlinglaw9_EntryBounds.j0] at h, fun _ _ _ _ _ _ _ r h => by simp [starlinglaw9_EntryBounds.j1] at h, fun _ _ _ _ _ _ r h => by simp [starlinglaw9_EntryBounds.j2] at h⟩
  | k + 1 => by
    obtain ⟨ih0, ih1, ih2⟩ := starlinglaw9_EntryBounds.mono_l k
    refine ⟨?_, ?_, ?_⟩
    · intro y0 y1 y2 y3 y4 y5 y6 y7
      unfold starlinglaw9_EntryBounds.j0
      repeat' first
      | (with_reducible exact ih0 _ _ _ _ _ _ _ _)
      | (with_reducible exact ih1 _ _ _ _ _ _ _)
      | (with_reducible exact ih2 _ _ _ _ _ _)
      | (with_reducible exact entry_Flip.mono _ _ _ _)
      | (with_reducible exact starlinglaw9_awake.mono _)
      | (with_reducible exact LeO.refl _)
      | (with_reducible exact LeO.none _)
      | (with_reducible refine LeO.ite ?_ ?_)
      | (with_reducible refine LeO.bind ?_ (fun _ => ?_))
      | exact ih0 _ _ _ _ _ _ _ _
      | exact ih1 _ _ _ _ _ _ _
      | exact ih2 _ _ _ _ _ _
      | exact entry_Flip.mono _ _ _ _
      | exact starlinglaw9_awake.mono _
      | exact LeO.none _
      | refine LeO.ite ?_ ?_
      | refine LeO.bind ?_ (fun _ => ?_)
    · intro y0 y1 y2 y3 y4 y5 y6
      unfold starlinglaw9_EntryBounds.j1
      repeat' first
      | (with_reducible exact ih0 _ _ _ _ _ _ _ _)
      | (with_reducible exact ih1 _ _ _ _ _ _ _)
      | (with_reducible exact ih2 _ _ _ _ _ _)
      | (with_reducible exact entry_Flip.mono _ _ _ _)
      | (with_reducible exact starlinglaw9_awake.mono _)
      | (with_reducible exact LeO.refl _)
      | (with_reducible exact LeO.none _)
      | (with_reducible refine LeO.ite ?_ ?_)
      | (with_reducible refine LeO.bind ?_ (fun _ => ?_))
      | exact ih0 _ _ _ _ _ _ _ _
      | exact ih1 _ _ _ _ _ _ _
      | exact ih2 _ _ _ _ _ _
      | exact entry_Flip.mono _ _ _ _
      | exact starlinglaw9_awake.mono _
      | exact LeO.none _
      | refine LeO.ite ?_ ?_
      | refine LeO.bind ?_ (fun _ => ?_)
    · intro y0 y1 y2 y3 y4 y5
      unfold starlinglaw9_EntryBounds.j2
      repeat' first
      | (with_reducible exact ih0 _ _ _ _ _ _ _ _)
      | (with_reducible exact ih1 _ _ _ _ _ _ _)
      | (with_reducible exact ih2 _ _ _ _ _ _)
      | (with_reducible exact entry_Flip.mono _ _ _ _)
      | (with_reducible exact starlinglaw9_awake.mono _)
      | (with_reducible exact LeO.refl _)
      | (with_reducible exact LeO.none _)
      | (with_reducible refine LeO.ite ?_ ?_)
      | (with_reducible refine LeO.bind ?_ (fun _ => ?_))
      | exact ih0 _ _ _ _ _ _ _ _
      | exact ih1 _ _ _ _ _ _ _
      | exact ih2 _ _ _ _ _ _
      | exact entry_Flip.mono _ _ _ _
      | exact starlinglaw9_awake.mono _
      | exact LeO.none _
      | refine LeO.ite ?_ ?_
      | refine LeO.bind ?_ (fun _ => ?_)
theorem starlinglaw9_EntryBounds.mono : ∀ a0 a1 a2 k, LeO (starlinglaw9_EntryBounds.f k a0 a1 a2) (starlinglaw9_EntryBounds.f (k + 1) a0 a1 a2) := by
  intro a0 a1 a2 k
  obtain ⟨ih0, ih1, ih2⟩ := starlinglaw9_EntryBounds.mono_l k
  unfold starlinglaw9_EntryBounds.f
  repeat' first
      | (with_reducible exact ih0 _ _ _ _ _ _ _ _)
      | (with_reducible exact ih1 _ _ _ _ _ _ _)
      | (with_reducible exact ih2 _ _ _ _ _ _)
      | (with_reducible exact entry_Flip.mono _ _ _ _)
      | (with_reducible exact starlinglaw9_awake.mono _)
      | (with_reducible exact LeO.refl _)
      | (with_reducible exact LeO.none _)
      | (with_reducible refine LeO.ite ?_ ?_)
      | (with_reducible refine LeO.bind ?_ (fun _ => ?_))
      | exact ih0 _ _ _ _ _ _ _ _
      | exact ih1 _ _ _ _ _ _ _
      | exact ih2 _ _ _ _ _ _
      | exact entry_Flip.mono _ _ _ _
      | exact starlinglaw9_awake.mono _
      | exact LeO.none _
      | refine LeO.ite ?_ ?_
      | refine LeO.bind ?_ (fun _ => ?_)
set_option maxHeartbeats 8000000 in
set_option maxRecDepth 100000 in
theorem starlinglaw9_EntryBounds.calls (k : Nat) (a0 : Int) (a1 : Int) (a2 : Int) (r : Bool) (w : World) (h : starlinglaw9_EntryBounds.f k a0 a1 a2 = some r) :
    Calls Try.prog 5 #[.int .i64 a0, .int .i64 a1, .int .i64 a2] w fun e w' => e = .returned (.bool r) ∧ Below w.heap.size w w' := by
  have hu35 := Try.underlying35
  have HB := Aside0.mk (Below.refl w.heap.size w)
  have H : ((entry_Flip.f k a0 a1 a2).bind fun bt125 => (if a0 = 0 then (if a1 = 0 then (starlinglaw9_EntryBounds.j0 k a0 a2 bt125.2.2 true a0 a1 bt125.1 bt125.2.1) else (if a0 ≥ 1 then (if a0 ≤ 1000000 then (if a1 ≥ 0 then (starlinglaw9_EntryBounds.j0 k a0 a2 bt125.2.2 (decide (a1 < 8)) a0 a1 bt125.1 bt125.2.1) else (starlinglaw9_EntryBounds.j0 k a0 a2 bt125.2.2 false a0 a1 bt125.1 bt125.2.1)) else (starlinglaw9_EntryBounds.j0 k a0 a2 bt125.2.2 false a0 a1 bt125.1 bt125.2.1)) else (starlinglaw9_EntryBounds.j0 k a0 a2 bt125.2.2 false a0 a1 bt125.1 bt125.2.1))) else (if a0 ≥ 1 then (if a0 ≤ 1000000 then (if a1 ≥ 0 then (starlinglaw9_EntryBounds.j0 k a0 a2 bt125.2.2 (decide (a1 < 8)) a0 a1 bt125.1 bt125.2.1) else (starlinglaw9_EntryBounds.j0 k a0 a2 bt125.2.2 false a0 a1 bt125.1 bt125.2.1)) else (starlinglaw9_EntryBounds.j0 k a0 a2 bt125.2.2 false a0 a1 bt125.1 bt125.2.1)) else (starlinglaw9_EntryBounds.j0 k a0 a2 bt125.2.2 false a0 a1 bt125.1 bt125.2.1)))) = some r := h
  clear h
  replace H := Option.bind_eq_some_iff.mp H
  obtain ⟨⟨t125, t126, t127⟩, A40, H⟩ := H
  replace H : (if a0 = 0 then (if a1 = 0 then (starlinglaw9_EntryBounds.j0 k a0 a2 t127 true a0 a1 t125 t126) else (if a0 ≥ 1 then (if a0 ≤ 1000000 then (if a1 ≥ 0 then (starlinglaw9_EntryBounds.j0 k a0 a2 t127 (decide (a1 < 8)) a0 a1 t125 t126) else (starlinglaw9_EntryBounds.j0 k a0 a2 t127 false a0 a1 t125 t126)) else (starlinglaw9_EntryBounds.j0 k a0 a2 t127 false a0 a1 t125 t126)) else (starlinglaw9_EntryBounds.j0 k a0 a2 t127 false a0 a1 t125 t126))) else (if a0 ≥ 1 then (if a0 ≤ 1000000 then (if a1 ≥ 0 then (starlinglaw9_EntryBounds.j0 k a0 a2 t127 (decide (a1 < 8)) a0 a1 t125 t126) else (starlinglaw9_EntryBounds.j0 k a0 a2 t127 false a0 a1 t125 t126)) else (starlinglaw9_EntryBounds.j0 k a0 a2 t127 false a0 a1 t125 t126)) else (starlinglaw9_EntryBounds.j0 k a0 a2 t127 false a0 a1 t125 t126))) = some r := H
  have A4 := Aside0.mk A40
  clear A40
  have HC5 := Aside0.mk H
  clear H
  go_enter Try.func5, Try.ntmps5
  go_upto_region 3 with (first | ((with_reducible refine gate_dst (N := 7) rfl ?_); refine box_event ?hg (N := 7) ?hd (cs := #[.int .i64 0, .int .i64 0]) (t := 35) ?hr ?_; (case hd => rfl); (case hg => rfl); (case hr => first | (go_simp; done) | (go_simp; rfl)); intro gb124 hg w6 hbox hb; have n0_ := Aside0.mk (below_step (by repeat (first | (with_reducible first | exact HB.out | apply below_alloc | apply pw_below_drewN | apply below_drew1) | exact HB.out)) hb); have n1_ := Aside0.mk (hbox); have n2_ := Aside0.mk ((by rw [hg]; exact (below_size (by repeat (first | (with_reducible first | exact HB.out | apply below_alloc | apply pw_below_drewN | apply below_drew1) | exact HB.out))) : w.heap.size ≤ gb124)); have n3_ := Aside0.mk ((by rw [hg]; exact (below_size (by repeat (first | (with_reducible first | exact HB.out | apply below_alloc | apply pw_below_drewN | apply below_drew1) | exact HB.out))) : w.heap.size ≤ gb124)); clear HB; have HB := n0_; have BK124 := n1_; have GW124 := n2_; have GE124 := n3_; clear n0_ n1_ n2_ n3_; clear hb hbox hg; have hcz7_0 : w6.cell? ⟨gb124, 0, none⟩ = some (.int .i64 0) := (blk_cell BK124.out 0).trans rfl; have hcz7_1 : w6.cell? ⟨gb124, 1, none⟩ = some (.int .i64 0) := (blk_cell BK124.out 1).trans rfl; have hfz7_0 := blk_frozen BK124.out 0; have hfz7_1 := blk_frozen BK124.out 1) | ((with_reducible refine gate_callee (f := 17) rfl ?_); refine goesL_ (some 18) rfl rfl Try.func17 (by kernel_rfl) rfl #[.agg #[.int .i64 a0, .int .i64 a1], .int .i64 a2] rfl (by (try simp only [List.map_toArray, List.map_cons, List.map_nil]); first | done | rfl | (simp only [List.length_drop, List.length_take]; rfl)) ?_; (with_reducible refine (entry_Flip.calls k a0 a1 a2 t125 t126 t127 _ A4.out).mono ?_); rintro e w8 ⟨rfl, hb⟩; refine ⟨_, rfl, ?_⟩; have n0_ := Aside0.mk (blk_below (g := gb124) (o := .cells #[.int .i64 a0, .int .i64 a1] 35 (0, 0)) (by (with_reducible repeat (first | refine blk_drewN ?_ _ | refine blk_drew ?_ | refine blk_alloc ?_ _)); refine blk_put (cs := #[.int .i64 a0, .int .i64 0]) ?_ 1 _ rfl; (with_reducible repeat (first | refine blk_drewN ?_ _ | refine blk_drew ?_ | refine blk_alloc ?_ _)); refine blk_put (cs := #[.int .i64 0, .int .i64 0]) ?_ 0 _ rfl; (with_reducible repeat (first | refine blk_drewN ?_ _ | refine blk_drew ?_ | refine blk_alloc ?_ _)); exact BK124.out) hb); have n1_ := Aside0.mk (below_step (by repeat (first | (with_reducible first | exact HB.out | apply below_alloc | apply pw_below_drewN | apply below_drew1 | refine below_set ?_ GE124.out) | exact HB.out)) hb); clear BK124; clear HB; have BK124 := n0_; have HB := n1_; clear n0_ n1_; (try clear hb); (try clear hb2); (try clear hk); (try clear hi)) | ((with_reducible refine gate_dst (N := 8) rfl ?_); refine box_event ?hg (N := 8) ?hd (cs := #[.int .i64 0, .int .i64 0]) (t := 35) ?hr ?_; (case hd => rfl); (case hg => rfl); (case hr => first | (go_simp; done) | (go_simp; rfl)); intro gb128 hg w9 hbox hb; have n0_ := Aside0.mk (blk_below (g := gb124) (o := .cells #[.int .i64 a0, .int .i64 a1] 35 (0, 0)) (by (with_reducible repeat (first | refine blk_drewN ?_ _ | refine blk_drew ?_ | refine blk_alloc ?_ _)); exact BK124.out) hb); have n1_ := Aside0.mk (below_step (by repeat (first | (with_reducible first | exact HB.out | apply below_alloc | apply pw_below_drewN | apply below_drew1 | refine below_set ?_ GE124.out) | exact HB.out)) hb); have n2_ := Aside0.mk (hbox); have n3_ := Aside0.mk ((by rw [hg]; exact (below_size (by repeat (first | (with_reducible first | exact HB.out | apply below_alloc | apply pw_below_drewN | apply below_drew1 | refine below_set ?_ GE124.out) | exact HB.out))) : w.heap.size ≤ gb128)); have n4_ := Aside0.mk ((by rw [hg]; exact (below_size (by repeat (first | (with_reducible first | exact HB.out | apply below_alloc | apply pw_below_drewN | apply below_drew1 | refine below_set ?_ GE124.out) | exact HB.out))) : w.heap.size ≤ gb128)); have n5_ := Aside0.mk ((by rw [hg]; exact Nat.ne_of_lt (blk_lt (g := gb124) (o := .cells #[.int .i64 a0, .int .i64 a1] 35 (0, 0)) (by (with_reducible repeat (first | refine blk_drewN ?_ _ | refine blk_drew ?_ | refine blk_alloc ?_ _)); exact BK124.out)) : gb124 ≠ gb128)); have n6_ := Aside0.mk ((by rw [hg]; exact Nat.ne_of_gt (blk_lt (g := gb124) (o := .cells #[.int .i64 a0, .int .i64 a1] 35 (0, 0)) (by (with_reducible repeat (first | refine blk_drewN ?_ _ | refine blk_drew ?_ | refine blk_alloc ?_ _)); exact BK124.out)) : gb128 ≠ gb124)); clear BK124; clear HB; have BK124 := n0_; have HB := n1_; have BK128 := n2_; have GW128 := n3_; have GE128 := n4_; have NB124_128 := n5_; have NB128_124 := n6_; clear n0_ n1_ n2_ n3_ n4_ n5_ n6_; clear hb hbox hg; have hnb10 := NB128_124.out; have hnc10 := NB124_128.out; have hcz11_0 : w9.cell? ⟨gb128, 0, none⟩ = some (.int .i64 0) := (blk_cell BK128.out 0).trans rfl; have hcz11_1 : w9.cell? ⟨gb128, 1, none⟩ = some (.int .i64 0) := (blk_cell BK128.out 1).trans rfl; have hfz11_0 := blk_frozen BK128.out 0; have hfz11_1 := blk_frozen BK128.out 1))
  (try simp only [Act.put, List.setIfInBounds_toArray, List.set_cons_zero, List.set_cons_succ])
  go_cut [10] (fun v10 wc => ∃ (kq : Nat) (x10_4 : Bool), v10 = .bool x10_4 ∧ Aside0 (starlinglaw9_EntryBounds.j0 kq a0 a2 t127 x10_4 a0 a1 t125 t126 = some r) ∧ Aside0 (kq ≤ k) ∧ Aside0 (wc.heap[gb124]? = some (.cells #[.int .i64 a0, .int .i64 a1] 35 (0, 0))) ∧ Aside0 (wc.heap[gb128]? = some (.cells #[.int .i64 t125, .int .i64 t126] 35 (0, 0))) ∧ Aside0 (Below w.heap.size w wc))
  case first =>
    have H := HC5.out
    clear HC5
    by_cases c12 : a0 = 0
    · rw [if_pos c12] at H
      have c12b0 : (a0 == 0) = true := beq_iff_eq.mpr c12
      have c12b1 : (a0 != 0) = false := bne_eq_false_iff_eq.mpr c12
      clear c12
      (first | rw [c12b0] | (simp only [i64_w, i32_w]; rw [c12b0]) | skip)
      by_cases c13 : a1 = 0
      · rw [if_pos c13] at H
        have c13b0 : (a1 == 0) = true := beq_iff_eq.mpr c13
        have c13b1 : (a1 != 0) = false := bne_eq_false_iff_eq.mpr c13
        clear c13
        have H' := Aside0.mk H
        clear H
        go_wp2
        go_meet
        case rel => exact ⟨_, (true), (by first | rfl | (simp; done) | (simp [*]; done)), H', ⟨by first | omega | exact Nat.le_refl _⟩, ⟨by (with_reducible repeat (first | refine blk_drewN ?_ _ | refine blk_drew ?_ | refine blk_alloc ?_ _)); refine blk_far ?_ NB124_128.out _; (with_reducible repeat (first | refine blk_drewN ?_ _ | refine blk_drew ?_ | refine blk_alloc ?_ _)); refine blk_far ?_ NB124_128.out _; (with_reducible repeat (first | refine blk_drewN ?_ _ | refine blk_drew ?_ | refine blk_alloc ?_ _)); exact BK124.out⟩, ⟨by (with_reducible repeat (first | refine blk_drewN ?_ _ | refine blk_drew ?_ | refine blk_alloc ?_ _)); refine blk_put (cs := #[.int .i64 t125, .int .i64 0]) ?_ 1 _ rfl; (with_reducible repeat (first | refine blk_drewN ?_ _ | refine blk_drew ?_ | refine blk_alloc ?_ _)); refine blk_put (cs := #[.int .i64 0, .int .i64 0]) ?_ 0 _ rfl; (with_reducible repeat (first | refine blk_drewN ?_ _ | refine blk_drew ?_ | refine blk_alloc ?_ _)); exact BK128.out⟩, ⟨by repeat (first | (with_reducible first | exact HB.out | apply below_alloc | apply pw_below_drewN | apply below_drew1 | refine below_set ?_ GE124.out | refine below_set ?_ GE128.out) | exact HB.out)⟩⟩
      · rw [if_neg c13] at H
        have c13b0 : (a1 == 0) = false := beq_eq_false_iff_ne.mpr c13
        have c13b1 : (a1 != 0) = true := bne_iff_ne.mpr c13
        by_cases c14 : a0 ≥ 1
        · rw [if_pos c14] at H
          have c14b0 : decide (1 ≤ a0) = true := decide_eq_true c14
          clear c14
          by_cases c15 : a0 ≤ 1000000
          · rw [if_pos c15] at H
            have c15b0 : decide (a0 ≤ 1000000) = true := decide_eq_true c15
            clear c15
            by_cases c16 : a1 ≥ 0
            · rw [if_pos c16] at H
              have c16b0 : decide (0 ≤ a1) = true := decide_eq_true c16
              clear c16
              have H' := Aside0.mk H
              clear H
              go_wp2
              go_meet
              case rel => exact ⟨_, (decide (a1 < 8)), (by first | rfl | (simp; done) | (simp [*]; done)), H', ⟨by first | omega | exact Nat.le_refl _⟩, ⟨by (with_reducible repeat (first | refine blk_drewN ?_ _ | refine blk_drew ?_ | refine blk_alloc ?_ _)); refine blk_far ?_ NB124_128.out _; (with_reducible repeat (first | refine blk_drewN ?_ _ | refine blk_drew ?_ | refine blk_alloc ?_ _)); refine blk_far ?_ NB124_128.out _; (with_reducible repeat (first | refine blk_drewN ?_ _ | refine blk_drew ?_ | refine blk_alloc ?_ _)); exact BK124.out⟩, ⟨by (with_reducible repeat (first | refine blk_drewN ?_ _ | refine blk_drew ?_ | refine blk_alloc ?_ _)); refine blk_put (cs := #[.int .i64 t125, .int .i64 0]) ?_ 1 _ rfl; (with_reducible repeat (first | refine blk_drewN ?_ _ | refine blk_drew ?_ | refine blk_alloc ?_ _)); refine blk_put (cs := #[.int .i64 0, .int .i64 0]) ?_ 0 _ rfl; (with_reducible repeat (first | refine blk_drewN ?_ _ | refine blk_drew ?_ | refine blk_alloc ?_ _)); exact BK128.out⟩, ⟨by repeat (first | (with_reducible first | exact HB.out | apply below_alloc | apply pw_below_drewN | apply below_drew1 | refine below_set ?_ GE124.out | refine below_set ?_ GE128.out) | exact HB.out)⟩⟩
            · rw [if_neg c16] at H
              have c16b0 : decide (0 ≤ a1) = false := decide_eq_false c16
              clear c16
              have H' := Aside0.mk H
              clear H
              go_wp2
              go_meet
              case rel => exact ⟨_, (false), (by first | rfl | (simp; done) | (simp [*]; done)), H', ⟨by first | omega | exact Nat.le_refl _⟩, ⟨by (with_reducible repeat (first | refine blk_drewN ?_ _ | refine blk_drew ?_ | refine blk_alloc ?_ _)); refine blk_far ?_ NB124_128.out _; (with_reducible repeat (first | refine blk_drewN ?_ _ | refine blk_drew ?_ | refine blk_alloc ?_ _)); refine blk_far ?_ NB124_128.out _; (with_reducible repeat (first | refine blk_drewN ?_ _ | refine blk_drew ?_ | refine blk_alloc ?_ _)); exact BK124.out⟩, ⟨by (with_reducible repeat (first | refine blk_drewN ?_ _ | refine blk_drew ?_ | refine blk_alloc ?_ _)); refine blk_put (cs := #[.int .i64 t125, .int .i64 0]) ?_ 1 _ rfl; (with_reducible repeat (first | refine blk_drewN ?_ _ | refine blk_drew ?_ | refine blk_alloc ?_ _)); refine blk_put (cs := #[.int .i64 0, .int .i64 0]) ?_ 0 _ rfl; (with_reducible repeat (first | refine blk_drewN ?_ _ | refine blk_drew ?_ | refine blk_alloc ?_ _)); exact BK128.out⟩, ⟨by repeat (first | (with_reducible first | exact HB.out | apply below_alloc | apply pw_below_drewN | apply below_drew1 | refine below_set ?_ GE124.out | refine below_set ?_ GE128.out) | exact HB.out)⟩⟩
          · rw [if_neg c15] at H
            have c15b0 : decide (a0 ≤ 1000000) = false := decide_eq_false c15
            clear c15
            have H' := Aside0.mk H
            clear H
            go_wp2
            go_meet
            case rel => exact ⟨_, (false), (by first | rfl | (simp; done) | (simp [*]; done)), H', ⟨by first | omega | exact Nat.le_refl _⟩, ⟨by (with_reducible repeat (first | refine blk_drewN ?_ _ | refine blk_drew ?_ | refine blk_alloc ?_ _)); refine blk_far ?_ NB124_128.out _; (with_reducible repeat (first | refine blk_drewN ?_ _ | refine blk_drew ?_ | refine blk_alloc ?_ _)); refine blk_far ?_ NB124_128.out _; (with_reducible repeat (first | refine blk_drewN ?_ _ | refine blk_drew ?_ | refine blk_alloc ?_ _)); exact BK124.out⟩, ⟨by (with_reducible repeat (first | refine blk_drewN ?_ _ | refine blk_drew ?_ | refine blk_alloc ?_ _)); refine blk_put (cs := #[.int .i64 t125, .int .i64 0]) ?_ 1 _ rfl; (with_reducible repeat (first | refine blk_drewN ?_ _ | refine blk_drew ?_ | refine blk_alloc ?_ _)); refine blk_put (cs := #[.int .i64 0, .int .i64 0]) ?_ 0 _ rfl; (with_reducible repeat (first | refine blk_drewN ?_ _ | refine blk_drew ?_ | refine blk_alloc ?_ _)); exact BK128.out⟩, ⟨by repeat (first | (with_reducible first | exact HB.out | apply below_alloc | apply pw_below_drewN | apply below_drew1 | refine below_set ?_ GE124.out | refine below_set ?_ GE128.out) | exact HB.out)⟩⟩
        · rw [if_neg c14] at H
          have c14b0 : decide (1 ≤ a0) = false := decide_eq_false c14
          clear c14
          have H' := Aside0.mk H
          clear H
          go_wp2
          go_meet
          case rel => exact ⟨_, (false), (by first | rfl | (simp; done) | (simp [*]; done)), H', ⟨by first | omega | exact Nat.le_refl _⟩, ⟨by (with_reducible repeat (first | refine blk_drewN ?_ _ | refine blk_drew ?_ | refine blk_alloc ?_ _)); refine blk_far ?_ NB124_128.out _; (with_reducible repeat (first | refine blk_drewN ?_ _ | refine blk_drew ?_ | refine blk_alloc ?_ _)); refine blk_far ?_ NB124_128.out _; (with_reducible repeat (first | refine blk_drewN ?_ _ | refine blk_drew ?_ | refine blk_alloc ?_ _)); exact BK124.out⟩, ⟨by (with_reducible repeat (first | refine blk_drewN ?_ _ | refine blk_drew ?_ | refine blk_alloc ?_ _)); refine blk_put (cs := #[.int .i64 t125, .int .i64 0]) ?_ 1 _ rfl; (with_reducible repeat (first | refine blk_drewN ?_ _ | refine blk_drew ?_ | refine blk_alloc ?_ _)); refine blk_put (cs := #[.int .i64 0, .int .i64 0]) ?_ 0 _ rfl; (with_reducible repeat (first | refine blk_drewN ?_ _ | refine blk_drew ?_ | refine blk_alloc ?_ _)); exact BK128.out⟩, ⟨by repeat (first | (with_reducible first | exact HB.out | apply below_alloc | apply pw_below_drewN | apply below_drew1 | refine below_set ?_ GE124.out | refine below_set ?_ GE128.out) | exact HB.out)⟩⟩
    · rw [if_neg c12] at H
      have c12b0 : (a0 == 0) = false := beq_eq_false_iff_ne.mpr c12
      have c12b1 : (a0 != 0) = true := bne_iff_ne.mpr c12
      (first | rw [c12b0] | (simp only [i64_w, i32_w]; rw [c12b0]) | skip)
      by_cases c17 : a0 ≥ 1
      · rw [if_pos c17] at H
        have c17b0 : decide (1 ≤ a0) = true := decide_eq_true c17
        clear c17
        by_cases c18 : a0 ≤ 1000000
        · rw [if_pos c18] at H
          have c18b0 : decide (a0 ≤ 1000000) = true := decide_eq_true c18
          clear c18
          by_cases c19 : a1 ≥ 0
          · rw [if_pos c19] at H
            have c19b0 : decide (0 ≤ a1) = true := decide_eq_true c19
            clear c19
            have H' := Aside0.mk H
            clear H
            go_wp2
            go_meet
            case rel => exact ⟨_, (decide (a1 < 8)), (by first | rfl | (simp; done) | (simp [*]; done)), H', ⟨by first | omega | exact Nat.le_refl _⟩, ⟨by (with_reducible repeat (first | refine blk_drewN ?_ _ | refine blk_drew ?_ | refine blk_alloc ?_ _)); refine blk_far ?_ NB124_128.out _; (with_reducible repeat (first | refine blk_drewN ?_ _ | refine blk_drew ?_ | refine blk_alloc ?_ _)); refine blk_far ?_ NB124_128.out _; (with_reducible repeat (first | refine blk_drewN ?_ _ | refine blk_drew ?_ | refine blk_alloc ?_ _)); exact BK124.out⟩, ⟨by (with_reducible repeat (first | refine blk_drewN ?_ _ | refine blk_drew ?_ | refine blk_alloc ?_ _)); refine blk_put (cs := #[.int .i64 t125, .int .i64 0]) ?_ 1 _ rfl; (with_reducible repeat (first | refine blk_drewN ?_ _ | refine blk_drew ?_ | refine blk_alloc ?_ _)); refine blk_put (cs := #[.int .i64 0, .int .i64 0]) ?_ 0 _ rfl; (with_reducible repeat (first | refine blk_drewN ?_ _ | refine blk_drew ?_ | refine blk_alloc ?_ _)); exact BK128.out⟩, ⟨by repeat (first | (with_reducible first | exact HB.out | apply below_alloc | apply pw_below_drewN | apply below_drew1 | refine below_set ?_ GE124.out | refine below_set ?_ GE128.out) | exact HB.out)⟩⟩
          · rw [if_neg c19] at H
            have c19b0 : decide (0 ≤ a1) = false := decide_eq_false c19
            clear c19
            have H' := Aside0.mk H
            clear H
            go_wp2
            go_meet
            case rel => exact ⟨_, (false), (by first | rfl | (simp; done) | (simp [*]; done)), H', ⟨by first | omega | exact Nat.le_refl _⟩, ⟨by (with_reducible repeat (first | refine blk_drewN ?_ _ | refine blk_drew ?_ | refine blk_alloc ?_ _)); refine blk_far ?_ NB124_128.out _; (with_reducible repeat (first | refine blk_drewN ?_ _ | refine blk_drew ?_ | refine blk_alloc ?_ _)); refine blk_far ?_ NB124_128.out _; (with_reducible repeat (first | refine blk_drewN ?_ _ | refine blk_drew ?_ | refine blk_alloc ?_ _)); exact BK124.out⟩, ⟨by (with_reducible repeat (first | refine blk_drewN ?_ _ | refine blk_drew ?_ | refine blk_alloc ?_ _)); refine blk_put (cs := #[.int .i64 t125, .int .i64 0]) ?_ 1 _ rfl; (with_reducible repeat (first | refine blk_drewN ?_ _ | refine blk_drew ?_ | refine blk_alloc ?_ _)); refine blk_put (cs := #[.int .i64 0, .int .i64 0]) ?_ 0 _ rfl; (with_reducible repeat (first | refine blk_drewN ?_ _ | refine blk_drew ?_ | refine blk_alloc ?_ _)); exact BK128.out⟩, ⟨by repeat (first | (with_reducible first | exact HB.out | apply below_alloc | apply pw_below_drewN | apply below_drew1 | refine below_set ?_ GE124.out | refine below_set ?_ GE128.out) | exact HB.out)⟩⟩
        · rw [if_neg c18] at H
          have c18b0 : decide (a0 ≤ 1000000) = false := decide_eq_false c18
          clear c18
          have H' := Aside0.mk H
          clear H
          go_wp2
          go_meet
          case rel => exact ⟨_, (false), (by first | rfl | (simp; done) | (simp [*]; done)), H', ⟨by first | omega | exact Nat.le_refl _⟩, ⟨by (with_reducible repeat (first | refine blk_drewN ?_ _ | refine blk_drew ?_ | refine blk_alloc ?_ _)); refine blk_far ?_ NB124_128.out _; (with_reducible repeat (first | refine blk_drewN ?_ _ | refine blk_drew ?_ | refine blk_alloc ?_ _)); refine blk_far ?_ NB124_128.out _; (with_reducible repeat (first | refine blk_drewN ?_ _ | refine blk_drew ?_ | refine blk_alloc ?_ _)); exact BK124.out⟩, ⟨by (with_reducible repeat (first | refine blk_drewN ?_ _ | refine blk_drew ?_ | refine blk_alloc ?_ _)); refine blk_put (cs := #[.int .i64 t125, .int .i64 0]) ?_ 1 _ rfl; (with_reducible repeat (first | refine blk_drewN ?_ _ | refine blk_drew ?_ | refine blk_alloc ?_ _)); refine blk_put (cs := #[.int .i64 0, .int .i64 0]) ?_ 0 _ rfl; (with_reducible repeat (first | refine blk_drewN ?_ _ | refine blk_drew ?_ | refine blk_alloc ?_ _)); exact BK128.out⟩, ⟨by repeat (first | (with_reducible first | exact HB.out | apply below_alloc | apply pw_below_drewN | apply below_drew1 | refine below_set ?_ GE124.out | refine below_set ?_ GE128.out) | exact HB.out)⟩⟩
      · rw [if_neg c17] at H
        have c17b0 : decide (1 ≤ a0) = false := decide_eq_false c17
        clear c17
        have H' := Aside0.mk H
        clear H
        go_wp2
        go_meet
        case rel => exact ⟨_, (false), (by first | rfl | (simp; done) | (simp [*]; done)), H', ⟨by first | omega | exact Nat.le_refl _⟩, ⟨by (with_reducible repeat (first | refine blk_drewN ?_ _ | refine blk_drew ?_ | refine blk_alloc ?_ _)); refine blk_far ?_ NB124_128.out _; (with_reducible repeat (first | refine blk_drewN ?_ _ | refine blk_drew ?_ | refine blk_alloc ?_ _)); refine blk_far ?_ NB124_128.out _; (with_reducible repeat (first | refine blk_drewN ?_ _ | refine blk_drew ?_ | refine blk_alloc ?_ _)); exact BK124.out⟩, ⟨by (with_reducible repeat (first | refine blk_drewN ?_ _ | refine blk_drew ?_ | refine blk_alloc ?_ _)); refine blk_put (cs := #[.int .i64 t125, .int .i64 0]) ?_ 1 _ rfl; (with_reducible repeat (first | refine blk_drewN ?_ _ | refine blk_drew ?_ | refine blk_alloc ?_ _)); refine blk_put (cs := #[.int .i64 0, .int .i64 0]) ?_ 0 _ rfl; (with_reducible repeat (first | refine blk_drewN ?_ _ | refine blk_drew ?_ | refine blk_alloc ?_ _)); exact BK128.out⟩, ⟨by repeat (first | (with_reducible first | exact HB.out | apply below_alloc | apply pw_below_drewN | apply below_drew1 | refine below_set ?_ GE124.out | refine below_set ?_ GE128.out) | exact HB.out)⟩⟩
  case rest =>
    clear HC5
    try clear c1
    try clear p2
    try clear c5
    try clear c10
    try clear c12
    try clear c12b0
    try clear c12b1
    try clear c13
    try clear c13b0
    try clear c13b1
    try clear c14
    try clear c14b0
    try clear c15
    try clear c15b0
    try clear c16
    try clear c16b0
    try clear c17
    try clear c17b0
    try clear c18
    try clear c18b0
    try clear c19
    try clear c19b0
    try clear hcz11_0
    try clear hcz11_1
    try clear hcz7_0
    try clear hcz7_1
    try clear hfz11_0
    try clear hfz11_1
    try clear hfz7_0
    try clear hfz7_1
    obtain ⟨kq, x10_4, rfl, HA, HJ4, BK124, BK128, HB⟩ := hcut
    cases kq with
    | zero => exact absurd HA.out (by simp [starlinglaw9_EntryBounds.j0])
    | succ kj4 =>
      have H := HA.out
      clear HA
      simp only [starlinglaw9_EntryBounds.j0] at H
      replace H := Option.bind_eq_some_iff.mp H
      obtain ⟨t129, A200, H⟩ := H
      replace H : (if (t129 != x10_4) = true then (some false) else (if a2 ≥ 0 then (starlinglaw9_EntryBounds.j1 kj4 a0 a2 t127 x10_4 (decide (a2 < 8)) t125 t126) else (starlinglaw9_EntryBounds.j1 kj4 a0 a2 t127 x10_4 false t125 t126))) = some r := H
      have A20 := Aside0.mk A200
      clear A200
      by_cases c21 : (t129 != x10_4) = true
      · rw [if_pos c21] at H
        have c21b0 : (t129 != x10_4) = true := c21
        (try (have c21b1 : decide (t129 = x10_4) = false := by simpa using c21))
        (try (have c21b2 : (t129 == x10_4) = false := by simpa using c21))
        (try (have c21b3 : ¬ (t129 = x10_4) := by simpa using c21))
        clear c21
        obtain rfl := Option.some.inj H
        have hnb22 := NB124_128.out
        have hnc22 := NB128_124.out
        have hcz23_0 : wc.cell? ⟨gb124, 0, none⟩ = some (.int .i64 a0) := (blk_cell BK124.out 0).trans rfl
        have hcz23_1 : wc.cell? ⟨gb124, 1, none⟩ = some (.int .i64 a1) := (blk_cell BK124.out 1).trans rfl
        have hfz23_0 := blk_frozen BK124.out 0
        have hfz23_1 := blk_frozen BK124.out 1
        go_wp2_with (first | ((with_reducible refine gate_callee (f := 18) rfl ?_); refine goesL_ (some 44) rfl rfl Try.func18 (by kernel_rfl) rfl #[.agg #[.int .i64 a0, .int .i64 a1]] rfl (by (try simp only [List.map_toArray, List.map_cons, List.map_nil]); first | done | rfl | (simp only [List.length_drop, List.length_take]; rfl)) ?_; (with_reducible refine (entry_May.calls a0 a1 t129 _ A20.out).mono ?_); rintro e w24 ⟨rfl, hb⟩; refine ⟨_, rfl, ?_⟩; have n0_ := Aside0.mk (blk_below (g := gb124) (o := .cells #[.int .i64 a0, .int .i64 a1] 35 (0, 0)) (by (with_reducible repeat (first | refine blk_drewN ?_ _ | refine blk_drew ?_ | refine blk_alloc ?_ _)); exact BK124.out) hb); have n1_ := Aside0.mk (blk_below (g := gb128) (o := .cells #[.int .i64 t125, .int .i64 t126] 35 (0, 0)) (by (with_reducible repeat (first | refine blk_drewN ?_ _ | refine blk_drew ?_ | refine blk_alloc ?_ _)); exact BK128.out) hb); have n2_ := Aside0.mk (below_step (by repeat (first | (with_reducible first | exact HB.out | apply below_alloc | apply pw_below_drewN | apply below_drew1 | refine below_set ?_ GE124.out | refine below_set ?_ GE128.out) | exact HB.out)) hb); clear BK124; clear BK128; clear HB; have BK124 := n0_; have BK128 := n1_; have HB := n2_; clear n0_ n1_ n2_; (try clear hb); (try clear hb2); (try clear hk); (try clear hi)))
        go_ret
        exact ⟨by first | rfl | (simp [errW_none, errW_some] <;> rfl) | (simp [*, errW_none, errW_some] <;> rfl), by repeat (first | (with_reducible first | exact HB.out | apply below_alloc | apply pw_below_drewN | apply below_drew1 | refine below_set ?_ GE124.out | refine below_set ?_ GE128.out) | exact HB.out)⟩
      · rw [if_neg c21] at H
        have c21b0 : (t129 != x10_4) = false := by simpa using c21
        (try (have c21b1 : decide (t129 = x10_4) = true := by simpa using c21))
        (try (have c21b2 : (t129 == x10_4) = true := by simpa using c21))
        clear c21
        have HC25 := Aside0.mk H
        clear H
        have hnb26 := NB124_128.out
        have hnc26 := NB128_124.out
        have hcz27_0 : wc.cell? ⟨gb124, 0, none⟩ = some (.int .i64 a0) := (blk_cell BK124.out 0).trans rfl
        have hcz27_1 : wc.cell? ⟨gb124, 1, none⟩ = some (.int .i64 a1) := (blk_cell BK124.out 1).trans rfl
        have hfz27_0 := blk_frozen BK124.out 0
        have hfz27_1 := blk_frozen BK124.out 1
        go_upto_region 6 with (first | ((with_reducible refine gate_callee (f := 18) rfl ?_); refine goesL_ (some 44) rfl rfl Try.func18 (by kernel_rfl) rfl #[.agg #[.int .i64 a0, .int .i64 a1]] rfl (by (try simp only [List.map_toArray, List.map_cons, List.map_nil]); first | done | rfl | (simp only [List.length_drop, List.length_take]; rfl)) ?_; (with_reducible refine (entry_May.calls a0 a1 t129 _ A20.out).mono ?_); rintro e w28 ⟨rfl, hb⟩; refine ⟨_, rfl, ?_⟩; have n0_ := Aside0.mk (blk_below (g := gb124) (o := .cells #[.int .i64 a0, .int .i64 a1] 35 (0, 0)) (by (with_reducible repeat (first | refine blk_drewN ?_ _ | refine blk_drew ?_ | refine blk_alloc ?_ _)); exact BK124.out) hb); have n1_ := Aside0.mk (blk_below (g := gb128) (o := .cells #[.int .i64 t125, .int .i64 t126] 35 (0, 0)) (by (with_reducible repeat (first | refine blk_drewN ?_ _ | refine blk_drew ?_ | refine blk_alloc ?_ _)); exact BK128.out) hb); have n2_ := Aside0.mk (below_step (by repeat (first | (with_reducible first | exact HB.out | apply below_alloc | apply pw_below_drewN | apply below_drew1 | refine below_set ?_ GE124.out | refine below_set ?_ GE128.out) | exact HB.out)) hb); clear BK124; clear BK128; clear HB; have BK124 := n0_; have BK128 := n1_; have HB := n2_; clear n0_ n1_ n2_; (try clear hb); (try clear hb2); (try clear hk); (try clear hi)))
        (try simp only [Act.put, List.setIfInBounds_toArray, List.set_cons_zero, List.set_cons_succ])
        go_cut [11] (fun v11 wc => ∃ (kq : Nat) (x11_24 : Bool), v11 = .bool x11_24 ∧ Aside0 (starlinglaw9_EntryBounds.j1 kq a0 a2 t127 x10_4 x11_24 t125 t126 = some r) ∧ Aside0 (kq ≤ kj4) ∧ Aside0 (wc.heap[gb124]? = some (.cells #[.int .i64 a0, .int .i64 a1] 35 (0, 0))) ∧ Aside0 (wc.heap[gb128]? = some (.cells #[.int .i64 t125, .int .i64 t126] 35 (0, 0))) ∧ Aside0 (Below w.heap.size w wc))
        case first =>
          have H := HC25.out
          clear HC25
          by_cases c29 : a2 ≥ 0
          · rw [if_pos c29] at H
            have c29b0 : decide (0 ≤ a2) = true := decide_eq_true c29
            clear c29
            (first | rw [c29b0] | (simp only [i64_w, i32_w]; rw [c29b0]) | skip)
            have H' := Aside0.mk H
            clear H
            go_wp2
            go_meet
            case rel => exact ⟨_, (decide (a2 < 8)), (by first | rfl | (simp; done) | (simp [*]; done)), H', ⟨by have := HJ4.out; first | omega | exact Nat.le_refl _⟩, ⟨by (with_reducible repeat (first | refine blk_drewN ?_ _ | refine blk_drew ?_ | refine blk_alloc ?_ _)); exact BK124.out⟩, ⟨by (with_reducible repeat (first | refine blk_drewN ?_ _ | refine blk_drew ?_ | refine blk_alloc ?_ _)); exact BK128.out⟩, ⟨by repeat (first | (with_reducible first | exact HB.out | apply below_alloc | apply pw_below_drewN | apply below_drew1 | refine below_set ?_ GE124.out | refine below_set ?_ GE128.out) | exact HB.out)⟩⟩
          · rw [if_neg c29] at H
            have c29b0 : decide (0 ≤ a2) = false := decide_eq_false c29
            clear c29
            (first | rw [c29b0] | (simp only [i64_w, i32_w]; rw [c29b0]) | skip)
            have H' := Aside0.mk H
            clear H
            go_wp2
            go_meet
            case rel => exact ⟨_, (false), (by first | rfl | (simp; done) | (simp [*]; done)), H', ⟨by have := HJ4.out; first | omega | exact Nat.le_refl _⟩, ⟨by (with_reducible repeat (first | refine blk_drewN ?_ _ | refine blk_drew ?_ | refine blk_alloc ?_ _)); exact BK124.out⟩, ⟨by (with_reducible repeat (first | refine blk_drewN ?_ _ | refine blk_drew ?_ | refine blk_alloc ?_ _)); exact BK128.out⟩, ⟨by repeat (first | (with_reducible first | exact HB.out | apply below_alloc | apply pw_below_drewN | apply below_drew1 | refine below_set ?_ GE124.out | refine below_set ?_ GE128.out) | exact HB.out)⟩⟩
        case rest =>
          clear HC25
          try clear c1
          try clear c2
          try clear p2
          try clear c5
          try clear c10
          try clear c12
          try clear c12b0
          try clear c12b1
          try clear c13
          try clear c13b0
          try clear c13b1
          try clear c14
          try clear c14b0
          try clear c15
          try clear c15b0
          try clear c16
          try clear c16b0
          try clear c17
          try clear c17b0
          try clear c18
          try clear c18b0
          try clear c19
          try clear c19b0
          try clear c21
          try clear c21b0
          try clear c21b1
          try clear c21b2
          try clear c22
          try clear c26
          try clear c29
          try clear c29b0
          try clear hcz11_0
          try clear hcz11_1
          try clear hcz23_0
          try clear hcz23_1
          try clear hcz27_0
          try clear hcz27_1
          try clear hcz7_0
          try clear hcz7_1
          try clear hfz11_0
          try clear hfz11_1
          try clear hfz23_0
          try clear hfz23_1
          try clear hfz27_0
          try clear hfz27_1
          try clear hfz7_0
          try clear hfz7_1
          try clear p2
          obtain ⟨kq, x11_24, rfl, HA, HJ24, BK124, BK128, HB⟩ := hcut
          cases kq with
          | zero => exact absurd HA.out (by simp [starlinglaw9_EntryBounds.j1])
          | succ kj24 =>
            have H := HA.out
            clear HA
            simp only [starlinglaw9_EntryBounds.j1] at H
            have HC30 := Aside0.mk H
            clear H
            go_upto_region 7 with (fail)
            go_cut [53] (fun v53 wc => ∃ (kq : Nat) (x53_29 : Bool), v53 = .bool x53_29 ∧ Aside0 (starlinglaw9_EntryBounds.j2 kq a0 a2 t127 x53_29 t125 t126 = some r) ∧ Aside0 (kq ≤ kj24) ∧ Aside0 (wc.heap[gb124]? = some (.cells #[.int .i64 a0, .int .i64 a1] 35 (0, 0))) ∧ Aside0 (wc.heap[gb128]? = some (.cells #[.int .i64 t125, .int .i64 t126] 35 (0, 0))) ∧ Aside0 (Below w.heap.size w wc))
            case first =>
              have H := HC30.out
              clear HC30
              by_cases c31 : x10_4 = true
              · subst c31
                have H1 : (starlinglaw9_EntryBounds.j2 kj24 a0 a2 t127 (!x11_24) t125 t126) = some r := by rw [if_pos rfl] at H; exact H
                clear H
                have H := H1
                clear H1
                have H' := Aside0.mk H
                clear H
                go_wp2
                go_meet
                case rel => exact ⟨_, (!x11_24), (by first | rfl | (simp; done) | (simp [*]; done)), H', ⟨by have := HJ4.out; have := HJ24.out; first | omega | exact Nat.le_refl _⟩, ⟨by (with_reducible repeat (first | refine blk_drewN ?_ _ | refine blk_drew ?_ | refine blk_alloc ?_ _)); exact BK124.out⟩, ⟨by (with_reducible repeat (first | refine blk_drewN ?_ _ | refine blk_drew ?_ | refine blk_alloc ?_ _)); exact BK128.out⟩, ⟨by repeat (first | (with_reducible first | exact HB.out | apply below_alloc | apply pw_below_drewN | apply below_drew1 | refine below_set ?_ GE124.out | refine below_set ?_ GE128.out) | exact HB.out)⟩⟩
              · replace c31 := Bool.eq_false_iff.mpr c31
                subst c31
                have H1 : (starlinglaw9_EntryBounds.j2 kj24 a0 a2 t127 true t125 t126) = some r := by rw [if_neg (show ¬ (false = true) by decide)] at H; exact H
                clear H
                have H := H1
                clear H1
                have H' := Aside0.mk H
                clear H
                go_wp2
                go_meet
                case rel => exact ⟨_, (true), (by first | rfl | (simp; done) | (simp [*]; done)), H', ⟨by have := HJ4.out; have := HJ24.out; first | omega | exact Nat.le_refl _⟩, ⟨by (with_reducible repeat (first | refine blk_drewN ?_ _ | refine blk_drew ?_ | refine blk_alloc ?_ _)); exact BK124.out⟩, ⟨by (with_reducible repeat (first | refine blk_drewN ?_ _ | refine blk_drew ?_ | refine blk_alloc ?_ _)); exact BK128.out⟩, ⟨by repeat (first | (with_reducible first | exact HB.out | apply below_alloc | apply pw_below_drewN | apply below_drew1 | refine below_set ?_ GE124.out | refine below_set ?_ GE128.out) | exact HB.out)⟩⟩
            case rest =>
              clear HC30
              try clear c1
              try clear c2
              try clear p2
              try clear c3
              try clear c5
              try clear c10
              try clear c12
              try clear c12b0
              try clear c12b1
              try clear c13
              try clear c13b0
              try clear c13b1
              try clear c14
              try clear c14b0
              try clear c15
              try clear c15b0
              try clear c16
              try clear c16b0
              try clear c17
              try clear c17b0
              try clear c18
              try clear c18b0
              try clear c19
              try clear c19b0
              try clear c21
              try clear c21b0
              try clear c21b1
              try clear c21b2
              try clear c22
              try clear c26
              try clear c29
              try clear c29b0
              try clear c31
              try clear hcz11_0
              try clear hcz11_1
              try clear hcz23_0
              try clear hcz23_1
              try clear hcz27_0
              try clear hcz27_1
              try clear hcz7_0
              try clear hcz7_1
              try clear hfz11_0
              try clear hfz11_1
              try clear hfz23_0
              try clear hfz23_1
              try clear hfz27_0
              try clear hfz27_1
              try clear hfz7_0
              try clear hfz7_1
              try clear p2
              obtain ⟨kq, x53_29, rfl, HA, HJ29, BK124, BK128, HB⟩ := hcut
              cases kq with
              | zero => exact absurd HA.out (by simp [starlinglaw9_EntryBounds.j2])
              | succ kj29 =>
                have H := HA.out
                clear HA
                simp only [starlinglaw9_EntryBounds.j2] at H
                by_cases c32 : x53_29 = true
                · subst c32
                  have H1 : (if t127 = 1 then (if (t125 == 0 && (t126 == 0)) = true then ((starlinglaw9_awake.f kj29).bind fun t130 => (some t130)) else (some false)) else (some false)) = some r := by rw [if_pos rfl] at H; exact H
                  clear H
                  have H := H1
                  clear H1
                  by_cases c33 : t127 = 1
                  · rw [if_pos c33] at H
                    have c33b0 : (t127 == 1) = true := beq_iff_eq.mpr c33
                    have c33b1 : (t127 != 1) = false := bne_eq_false_iff_eq.mpr c33
                    clear c33
                    by_cases c34 : (t125 == 0 && (t126 == 0)) = true
                    · rw [if_pos c34] at H
                      have c34b0 : (t125 == 0 && (t126 == 0)) = true := c34
                      (try (have c34b1 : decide (t125 = 0 && (t126 == 0)) = true := by simpa using c34))
                      (try (have c34b2 : (t125 == 0 && (t126 == 0)) = true := by simpa using c34))
                      clear c34
                      replace H := Option.bind_eq_some_iff.mp H
                      obtain ⟨t130, A350, H⟩ := H
                      replace H : (some t130) = some r := H
                      have A35 := Aside0.mk A350
                      clear A350
                      obtain rfl := Option.some.inj H
                      have hnb36 := NB128_124.out
                      have hnc36 := NB124_128.out
                      have hcz37_0 : wc.cell? ⟨gb128, 0, none⟩ = some (.int .i64 t125) := (blk_cell BK128.out 0).trans rfl
                      have hcz37_1 : wc.cell? ⟨gb128, 1, none⟩ = some (.int .i64 t126) := (blk_cell BK128.out 1).trans rfl
                      have hfz37_0 := blk_frozen BK128.out 0
                      have hfz37_1 := blk_frozen BK128.out 1
                      go_wp2_with (first | (go_at_call 19; (with_reducible refine (starlinglaw9_awake.calls kj29  t130 _ A35.out).mono ?_); rintro e w38 ⟨rfl, hb⟩; have n0_ := Aside0.mk (blk_below (g := gb124) (o := .cells #[.int .i64 a0, .int .i64 a1] 35 (0, 0)) (by (with_reducible repeat (first | refine blk_drewN ?_ _ | refine blk_drew ?_ | refine blk_alloc ?_ _)); exact BK124.out) hb); have n1_ := Aside0.mk (blk_below (g := gb128) (o := .cells #[.int .i64 t125, .int .i64 t126] 35 (0, 0)) (by (with_reducible repeat (first | refine blk_drewN ?_ _ | refine blk_drew ?_ | refine blk_alloc ?_ _)); exact BK128.out) hb); have n2_ := Aside0.mk (below_step (by repeat (first | (with_reducible first | exact HB.out | apply below_alloc | apply pw_below_drewN | apply below_drew1 | refine below_set ?_ GE124.out | refine below_set ?_ GE128.out) | exact HB.out)) hb); clear BK124; clear BK128; clear HB; have BK124 := n0_; have BK128 := n1_; have HB := n2_; clear n0_ n1_ n2_; (try clear hb); (try clear hb2); (try clear hk); (try clear hi)))
                      go_ret
                      exact ⟨by first | rfl | (simp [errW_none, errW_some] <;> rfl) | (simp [*, errW_none, errW_some] <;> rfl), by repeat (first | (with_reducible first | exact HB.out | apply below_alloc | apply pw_below_drewN | apply below_drew1 | refine below_set ?_ GE124.out | refine below_set ?_ GE128.out) | exact HB.out)⟩
                    · rw [if_neg c34] at H
                      have c34b0 : (t125 == 0 && (t126 == 0)) = false := by simpa using c34
                      (try (have c34b1 : decide (t125 = 0 && (t126 == 0)) = false := by simpa using c34))
                      (try (have c34b2 : (t125 == 0 && (t126 == 0)) = false := by simpa using c34))
                      (try (have c34b3 : ¬ (t125 = 0 && (t126 == 0)) := by simpa using c34))
                      clear c34
                      obtain rfl := Option.some.inj H
                      have hnb39 := NB128_124.out
                      have hnc39 := NB124_128.out
                      have hcz40_0 : wc.cell? ⟨gb128, 0, none⟩ = some (.int .i64 t125) := (blk_cell BK128.out 0).trans rfl
                      have hcz40_1 : wc.cell? ⟨gb128, 1, none⟩ = some (.int .i64 t126) := (blk_cell BK128.out 1).trans rfl
                      have hfz40_0 := blk_frozen BK128.out 0
                      have hfz40_1 := blk_frozen BK128.out 1
                      go_wp2
                      go_ret
                      exact ⟨by first | rfl | (simp [errW_none, errW_some] <;> rfl) | (simp [*, errW_none, errW_some] <;> rfl), by repeat (first | (with_reducible first | exact HB.out | apply below_alloc | apply pw_below_drewN | apply below_drew1 | refine below_set ?_ GE124.out | refine below_set ?_ GE128.out) | exact HB.out)⟩
                  · rw [if_neg c33] at H
                    have c33b0 : (t127 == 1) = false := beq_eq_false_iff_ne.mpr c33
                    have c33b1 : (t127 != 1) = true := bne_iff_ne.mpr c33
                    obtain rfl := Option.some.inj H
                    go_wp2
                    go_ret
                    exact ⟨by first | rfl | (simp [errW_none, errW_some] <;> rfl) | (simp [*, errW_none, errW_some] <;> rfl), by repeat (first | (with_reducible first | exact HB.out | apply below_alloc | apply pw_below_drewN | apply below_drew1 | refine below_set ?_ GE124.out | refine below_set ?_ GE128.out) | exact HB.out)⟩
                · replace c32 := Bool.eq_false_iff.mpr c32
                  subst c32
                  have H1 : (if a0 = 1000000 then (if t127 = 6 then (if (t125 == 0 && (t126 == 0)) = true then ((starlinglaw9_awake.f kj29).bind fun t131 => (some t131)) else (some false)) else (some false)) else (if t127 = 0 then (if (t125 == (wrap64 (a0 + 1)) && (t126 == a2)) = true then ((starlinglaw9_awake.f kj29).bind fun t132 => (some t132)) else (some false)) else (some false))) = some r := by rw [if_neg (show ¬ (false = true) by decide)] at H; exact H
                  clear H
                  have H := H1
                  clear H1
                  by_cases c41 : a0 = 1000000
                  · rw [if_pos c41] at H
                    have c41b0 : (a0 == 1000000) = true := beq_iff_eq.mpr c41
                    have c41b1 : (a0 != 1000000) = false := bne_eq_false_iff_eq.mpr c41
                    clear c41
                    by_cases c42 : t127 = 6
                    · rw [if_pos c42] at H
                      have c42b0 : (t127 == 6) = true := beq_iff_eq.mpr c42
                      have c42b1 : (t127 != 6) = false := bne_eq_false_iff_eq.mpr c42
                      clear c42
                      by_cases c43 : (t125 == 0 && (t126 == 0)) = true
                      · rw [if_pos c43] at H
                        have c43b0 : (t125 == 0 && (t126 == 0)) = true := c43
                        (try (have c43b1 : decide (t125 = 0 && (t126 == 0)) = true := by simpa using c43))
                        (try (have c43b2 : (t125 == 0 && (t126 == 0)) = true := by simpa using c43))
                        clear c43
                        replace H := Option.bind_eq_some_iff.mp H
                        obtain ⟨t131, A440, H⟩ := H
                        replace H : (some t131) = some r := H
                        have A44 := Aside0.mk A440
                        clear A440
                        obtain rfl := Option.some.inj H
                        have hnb45 := NB128_124.out
                        have hnc45 := NB124_128.out
                        have hcz46_0 : wc.cell? ⟨gb128, 0, none⟩ = some (.int .i64 t125) := (blk_cell BK128.out 0).trans rfl
                        have hcz46_1 : wc.cell? ⟨gb128, 1, none⟩ = some (.int .i64 t126) := (blk_cell BK128.out 1).trans rfl
                        have hfz46_0 := blk_frozen BK128.out 0
                        have hfz46_1 := blk_frozen BK128.out 1
                        go_wp2_with (first | (go_at_call 19; (with_reducible refine (starlinglaw9_awake.calls kj29  t131 _ A44.out).mono ?_); rintro e w47 ⟨rfl, hb⟩; have n0_ := Aside0.mk (blk_below (g := gb124) (o := .cells #[.int .i64 a0, .int .i64 a1] 35 (0, 0)) (by (with_reducible repeat (first | refine blk_drewN ?_ _ | refine blk_drew ?_ | refine blk_alloc ?_ _)); exact BK124.out) hb); have n1_ := Aside0.mk (blk_below (g := gb128) (o := .cells #[.int .i64 t125, .int .i64 t126] 35 (0, 0)) (by (with_reducible repeat (first | refine blk_drewN ?_ _ | refine blk_drew ?_ | refine blk_alloc ?_ _)); exact BK128.out) hb); have n2_ := Aside0.mk (below_step (by repeat (first | (with_reducible first | exact HB.out | apply below_alloc | apply pw_below_drewN | apply below_drew1 | refine below_set ?_ GE124.out | refine below_set ?_ GE128.out) | exact HB.out)) hb); clear BK124; clear BK128; clear HB; have BK124 := n0_; have BK128 := n1_; have HB := n2_; clear n0_ n1_ n2_; (try clear hb); (try clear hb2); (try clear hk); (try clear hi)))
                        go_ret
                        exact ⟨by first | rfl | (simp [errW_none, errW_some] <;> rfl) | (simp [*, errW_none, errW_some] <;> rfl), by repeat (first | (with_reducible first | exact HB.out | apply below_alloc | apply pw_below_drewN | apply below_drew1 | refine below_set ?_ GE124.out | refine below_set ?_ GE128.out) | exact HB.out)⟩
                      · rw [if_neg c43] at H
                        have c43b0 : (t125 == 0 && (t126 == 0)) = false := by simpa using c43
                        (try (have c43b1 : decide (t125 = 0 && (t126 == 0)) = false := by simpa using c43))
                        (try (have c43b2 : (t125 == 0 && (t126 == 0)) = false := by simpa using c43))
                        (try (have c43b3 : ¬ (t125 = 0 && (t126 == 0)) := by simpa using c43))
                        clear c43
                        obtain rfl := Option.some.inj H
                        have hnb48 := NB128_124.out
                        have hnc48 := NB124_128.out
                        have hcz49_0 : wc.cell? ⟨gb128, 0, none⟩ = some (.int .i64 t125) := (blk_cell BK128.out 0).trans rfl
                        have hcz49_1 : wc.cell? ⟨gb128, 1, none⟩ = some (.int .i64 t126) := (blk_cell BK128.out 1).trans rfl
                        have hfz49_0 := blk_frozen BK128.out 0
                        have hfz49_1 := blk_frozen BK128.out 1
                        go_wp2
                        go_ret
                        exact ⟨by first | rfl | (simp [errW_none, errW_some] <;> rfl) | (simp [*, errW_none, errW_some] <;> rfl), by repeat (first | (with_reducible first | exact HB.out | apply below_alloc | apply pw_below_drewN | apply below_drew1 | refine below_set ?_ GE124.out | refine below_set ?_ GE128.out) | exact HB.out)⟩
                    · rw [if_neg c42] at H
                      have c42b0 : (t127 == 6) = false := beq_eq_false_iff_ne.mpr c42
                      have c42b1 : (t127 != 6) = true := bne_iff_ne.mpr c42
                      obtain rfl := Option.some.inj H
                      go_wp2
                      go_ret
                      exact ⟨by first | rfl | (simp [errW_none, errW_some] <;> rfl) | (simp [*, errW_none, errW_some] <;> rfl), by repeat (first | (with_reducible first | exact HB.out | apply below_alloc | apply pw_below_drewN | apply below_drew1 | refine below_set ?_ GE124.out | refine below_set ?_ GE128.out) | exact HB.out)⟩
                  · rw [if_neg c41] at H
                    have c41b0 : (a0 == 1000000) = false := beq_eq_false_iff_ne.mpr c41
                    have c41b1 : (a0 != 1000000) = true := bne_iff_ne.mpr c41
                    by_cases c50 : t127 = 0
                    · rw [if_pos c50] at H
                      have c50b0 : (t127 == 0) = true := beq_iff_eq.mpr c50
                      have c50b1 : (t127 != 0) = false := bne_eq_false_iff_eq.mpr c50
                      clear c50
                      by_cases c51 : (t125 == (wrap64 (a0 + 1)) && (t126 == a2)) = true
                      · rw [if_pos c51] at H
                        have c51b0 : (t125 == (wrap64 (a0 + 1)) && (t126 == a2)) = true := c51
                        (try (have c51b1 : decide (t125 = (wrap64 (a0 + 1)) && (t126 == a2)) = true := by simpa using c51))
                        (try (have c51b2 : (t125 == (wrap64 (a0 + 1)) && (t126 == a2)) = true := by simpa using c51))
                        clear c51
                        replace H := Option.bind_eq_some_iff.mp H
                        obtain ⟨t132, A520, H⟩ := H
                        replace H : (some t132) = some r := H
                        have A52 := Aside0.mk A520
                        clear A520
                        obtain rfl := Option.some.inj H
                        have hnb53 := NB128_124.out
                        have hnc53 := NB124_128.out
                        have hcz54_0 : wc.cell? ⟨gb128, 0, none⟩ = some (.int .i64 t125) := (blk_cell BK128.out 0).trans rfl
                        have hcz54_1 : wc.cell? ⟨gb128, 1, none⟩ = some (.int .i64 t126) := (blk_cell BK128.out 1).trans rfl
                        have hfz54_0 := blk_frozen BK128.out 0
                        have hfz54_1 := blk_frozen BK128.out 1
                        go_wp2_with (first | (go_at_call 19; (with_reducible refine (starlinglaw9_awake.calls kj29  t132 _ A52.out).mono ?_); rintro e w55 ⟨rfl, hb⟩; have n0_ := Aside0.mk (blk_below (g := gb124) (o := .cells #[.int .i64 a0, .int .i64 a1] 35 (0, 0)) (by (with_reducible repeat (first | refine blk_drewN ?_ _ | refine blk_drew ?_ | refine blk_alloc ?_ _)); exact BK124.out) hb); have n1_ := Aside0.mk (blk_below (g := gb128) (o := .cells #[.int .i64 t125, .int .i64 t126] 35 (0, 0)) (by (with_reducible repeat (first | refine blk_drewN ?_ _ | refine blk_drew ?_ | refine blk_alloc ?_ _)); exact BK128.out) hb); have n2_ := Aside0.mk (below_step (by repeat (first | (with_reducible first | exact HB.out | apply below_alloc | apply pw_below_drewN | apply below_drew1 | refine below_set ?_ GE124.out | refine below_set ?_ GE128.out) | exact HB.out)) hb); clear BK124; clear BK128; clear HB; have BK124 := n0_; have BK128 := n1_; have HB := n2_; clear n0_ n1_ n2_; (try clear hb); (try clear hb2); (try clear hk); (try clear hi)))
                        go_ret
                        exact ⟨by first | rfl | (simp [errW_none, errW_some] <;> rfl) | (simp [*, errW_none, errW_some] <;> rfl), by repeat (first | (with_reducible first | exact HB.out | apply below_alloc | apply pw_below_drewN | apply below_drew1 | refine below_set ?_ GE124.out | refine below_set ?_ GE128.out) | exact HB.out)⟩
                      · rw [if_neg c51] at H
                        have c51b0 : (t125 == (wrap64 (a0 + 1)) && (t126 == a2)) = false := by simpa using c51
                        (try (have c51b1 : decide (t125 = (wrap64 (a0 + 1)) && (t126 == a2)) = false := by simpa using c51))
                        (try (have c51b2 : (t125 == (wrap64 (a0 + 1)) && (t126 == a2)) = false := by simpa using c51))
                        (try (have c51b3 : ¬ (t125 = (wrap64 (a0 + 1)) && (t126 == a2)) := by simpa using c51))
                        clear c51
                        obtain rfl := Option.some.inj H
                        have hnb56 := NB128_124.out
                        have hnc56 := NB124_128.out
                        have hcz57_0 : wc.cell? ⟨gb128, 0, none⟩ = some (.int .i64 t125) := (blk_cell BK128.out 0).trans rfl
                        have hcz57_1 : wc.cell? ⟨gb128, 1, none⟩ = some (.int .i64 t126) := (blk_cell BK128.out 1).trans rfl
                        have hfz57_0 := blk_frozen BK128.out 0
                        have hfz57_1 := blk_frozen BK128.out 1
                        go_wp2
                        go_ret
                        exact ⟨by first | rfl | (simp [errW_none, errW_some] <;> rfl) | (simp [*, errW_none, errW_some] <;> rfl), by repeat (first | (with_reducible first | exact HB.out | apply below_alloc | apply pw_below_drewN | apply below_drew1 | refine below_set ?_ GE124.out | refine below_set ?_ GE128.out) | exact HB.out)⟩
                    · rw [if_neg c50] at H
                      have c50b0 : (t127 == 0) = false := beq_eq_false_iff_ne.mpr c50
                      have c50b1 : (t127 != 0) = true := bne_iff_ne.mpr c50
                      obtain rfl := Option.some.inj H
                      go_wp2
                      go_ret
                      exact ⟨by first | rfl | (simp [errW_none, errW_some] <;> rfl) | (simp [*, errW_none, errW_some] <;> rfl), by repeat (first | (with_reducible first | exact HB.out | apply below_alloc | apply pw_below_drewN | apply below_drew1 | refine below_set ?_ GE124.out | refine below_set ?_ GE128.out) | exact HB.out)⟩

/-- THE ONE PURE STATEMENT of starlinglaw9_EntryBounds: yours. -/
def starlinglaw9_EntryBounds.Pure : Prop := ∀ (a0 : Int) (a1 : Int) (a2 : Int), (Lit.int .i64 a0).wf = true → (Lit.int .i64 a1).wf = true → (Lit.int .i64 a2).wf = true → ∃ k, starlinglaw9_EntryBounds.f k a0 a1 a2 = some true
theorem starlinglaw9_EntryBounds.walk (P : starlinglaw9_EntryBounds.Pure) (a0 : Int) (a1 : Int) (a2 : Int) (w : World) (w0 : (Lit.int .i64 a0).wf = true) (w1 : (Lit.int .i64 a1).wf = true) (w2 : (Lit.int .i64 a2).wf = true) :
    Calls Try.prog 5 #[.int .i64 a0, .int .i64 a1, .int .i64 a2] w fun e w' => e = .returned (.bool true) ∧ Below w.heap.size w w' := by
  obtain ⟨k, h⟩ := P a0 a1 a2 w0 w1 w2
  refine (starlinglaw9_EntryBounds.calls k a0 a1 a2 true w h).mono ?_
  rintro e w' ⟨rfl, hd⟩
  exact ⟨rfl, hd⟩

end Go.Proofs.Ytngoopfdfihkpaa.PEntryBounds
