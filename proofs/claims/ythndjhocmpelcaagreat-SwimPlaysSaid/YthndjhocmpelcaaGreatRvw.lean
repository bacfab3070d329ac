/- Chapter 2, the document's own view: NewView, Hear, Of. Conditions: the view lies in a block of its own. -/
import Derived.Test.YthndjhocmpelcaaGreatGf
import Derived.Test.YthndjhocmpelcaaGreatRth
namespace Go.Proofs.YthndjhocmpelcaaGreat.Rvw
open Go.RowKit Kit
open Go.Proofs.YthndjhocmpelcaaGreat.Hth (cmpI cmpC nodeB mayC)
open Go.Proofs.YthndjhocmpelcaaGreat.Bel (vc z8 hearB upd upd_false grown_of_below hearB_may hearB_zero hearB_no hearB_yes onN on)
set_option linter.unusedVariables false
theorem Hid.mk_ {p : Prop} (h : p) : Hid p := h
def Vw (w : World) (g : Nat) (p q : Nat → Int) : Prop := w.heap[g]? = some (.cells (vc p q) 110 (0, 0))
theorem Vw.cell {w : World} {g : Nat} {p q : Nat → Int} (h : Vw w g p q) (i : Nat) : w.cell? ⟨g, i, none⟩ = (vc p q)[i]? := cell_of_row w g i (vc p q) 110 (0, 0) h
theorem Vw.fr {w : World} {g : Nat} {p q : Nat → Int} (h : Vw w g p q) (o : Nat) : w.frozen? ⟨g, o, none⟩ = false := frozen_of_row w g o _ 110 h
theorem Vw.lt {w : World} {g : Nat} {p q : Nat → Int} (h : Vw w g p q) : g < w.heap.size := by
  rcases Nat.lt_or_ge g w.heap.size with h1 | h1
  · exact h1
  · unfold Vw at h; rw [Array.getElem?_eq_none h1] at h; cases h
theorem Vw.below {w w' : World} {g B : Nat} {p q : Nat → Int} (h : Vw w g p q) (hb : Below B w w') (hg : g < B) : Vw w' g p q := (hb.block g hg).trans h
def MadeView (w : World) (e : Ending) (w' : World) : Prop := ∃ g, e = .returned (.pointer (some ⟨g, 0, none⟩)) ∧ w.heap.size ≤ g ∧ Vw w' g z8 z8 ∧ Below w.heap.size w w'
set_option maxHeartbeats 2000000 in
theorem new0 (w : World) : Calls Tryz.prog 32 #[] w (MadeView w) := by
  go_enter Tryz.func32, Tryz.ntmps32
  go_wp2_with fail
  go_rounds 9
  go_returns
  exact ⟨w.heap.size, rfl, Nat.le_refl _, heap_alloc_new w _, by go_grown⟩
def Heard (w : World) (g : Nat) (p q : Nat → Int) (n i h : Int) (e : Ending) (w' : World) : Prop :=
  e = .returned (.bool (hearB p q n i h)) ∧ Vw w' g (upd p n i (hearB p q n i h)) (upd q n h (hearB p q n i h)) ∧ w.grownBy w' (some g)
theorem heard_no {w w' : World} {g : Nat} {p q : Nat → Int} {n i h : Int} (hv : Vw w g p q) (hb : Below w.heap.size w w') (hh : hearB p q n i h = false) : Heard w g p q n i h (.returned (.bool false)) w' := by
  refine ⟨by rw [hh], ?_, grown_of_below hb⟩
  rw [hh, upd_false, upd_false]
  exact hv.below hb hv.lt
theorem heard_yes {w w2 w' : World} {g : Nat} {p q : Nat → Int} {n i h : Int} {k : Nat} (hv : Vw w g p q) (hb : Below w.heap.size w w2) (hw : w' = ((w2.setCell ⟨g, 3 * k, none⟩ (.int .i64 n)).setCell ⟨g, 3 * k + 1, none⟩ (.int .i64 i)).setCell ⟨g, 3 * k + 2, none⟩ (.int .i64 h))
    (hh : hearB p q n i h = true) (hc : (((vc p q).setIfInBounds (3 * k) (.int .i64 n)).setIfInBounds (3 * k + 1) (.int .i64 i)).setIfInBounds (3 * k + 2) (.int .i64 h) = vc (upd p n i true) (upd q n h true)) : Heard w g p q n i h (.returned (.bool true)) w' := by
  subst hw
  have h2 : w2.heap[g]? = some (.cells (vc p q) 110 (0, 0)) := hv.below hb hv.lt
  have h3 := heap_setCell_same _ g (3 * k) _ 110 (.int .i64 n) h2
  have h4 := heap_setCell_same _ g (3 * k + 1) _ 110 (.int .i64 i) h3
  have h5 := heap_setCell_same _ g (3 * k + 2) _ 110 (.int .i64 h) h4
  refine ⟨by rw [hh], ?_, ?_⟩
  · rw [hh]; unfold Vw; rw [h5, hc]
  · refine ⟨hb.os, hb.tape, hb.output, by simpa [World.setCell] using hb.size, fun j hj hne => ?_⟩
    have hjg : j ≠ g := fun e => hne (by rw [e])
    rw [heap_setCell_other _ _ _ _ hjg, heap_setCell_other _ _ _ _ hjg, heap_setCell_other _ _ _ _ hjg]
    exact hb.block j hj
set_option maxHeartbeats 2000000 in
theorem hear_may (p q : Nat → Int) (g : Nat) (n i h r : Int) (w : World) (hv : Hid (Vw w g p q)) (hg : g < w.heap.size) (hvc : ∀ o, w.cell? ⟨g, o, none⟩ = (vc p q)[o]?) (hh : Hid (hearB p q n i h = false)) (hm : Hid (false = mayC n i h)) (hn0 : Hid (decide (i = 0 ∧ h = 0) = decide (i = 0 ∧ h = 0))) (hcmp : Hid (r = cmpC i h i h)) :
    Calls Tryz.prog 34 #[.pointer (some ⟨g, 0, none⟩), .agg #[.int .i64 n, .int .i64 i, .int .i64 h]] w (Heard w g p q n i h) := by
  go_enter Tryz.func34, Tryz.ntmps34
  go_upto_region 1 with fail
  refine wp_draws _ (Below.refl _ _) (by kernel_rfl) (by kernel_rfl) (fun hne hN => ?_)
  repeat (go_big_quiet_step (first | (go_at_call 37; with_reducible exact After.calls (Rth.may1 _ _ _ _ _ hm)) | (go_at_call 38; with_reducible exact After.calls (Rth.nothing1 _ _ _ _ _ hn0)) | (go_at_call 60; with_reducible exact After.calls (Rth.compare1 _ _ _ _ _ _ _ r hcmp))))
  refine wpQuiet_nil (after_cells ?_)
  intro w2 hb2 hc2
  go_wp2_with fail
  go_ret
  exact heard_no hv.out ((Below.refl _ _).alloc (Nat.le_refl _) _ |>.trans (hb2.mono (by simp))) hh.out
set_option maxHeartbeats 2000000 in
theorem hear_none (p q : Nat → Int) (g : Nat) (n i h r : Int) (w : World) (hv : Hid (Vw w g p q)) (hg : g < w.heap.size) (hvc : ∀ o, w.cell? ⟨g, o, none⟩ = (vc p q)[o]?) (hh : Hid (hearB p q n i h = false)) (hm : Hid (true = mayC n i h)) (hn0 : Hid (true = decide (i = 0 ∧ h = 0))) (hcmp : Hid (r = cmpC i h i h)) :
    Calls Tryz.prog 34 #[.pointer (some ⟨g, 0, none⟩), .agg #[.int .i64 n, .int .i64 i, .int .i64 h]] w (Heard w g p q n i h) := by
  go_enter Tryz.func34, Tryz.ntmps34
  go_upto_region 1 with fail
  refine wp_draws _ (Below.refl _ _) (by kernel_rfl) (by kernel_rfl) (fun hne hN => ?_)
  repeat (go_big_quiet_step (first | (go_at_call 37; with_reducible exact After.calls (Rth.may1 _ _ _ _ _ hm)) | (go_at_call 38; with_reducible exact After.calls (Rth.nothing1 _ _ _ _ _ hn0)) | (go_at_call 60; with_reducible exact After.calls (Rth.compare1 _ _ _ _ _ _ _ r hcmp))))
  refine wpQuiet_nil (after_cells ?_)
  intro w2 hb2 hc2
  go_wp2_with fail
  go_ret
  exact heard_no hv.out ((Below.refl _ _).alloc (Nat.le_refl _) _ |>.trans (hb2.mono (by simp))) hh.out
set_option maxHeartbeats 2000000 in
theorem hear_no0 (p q : Nat → Int) (g : Nat) (i h r : Int) (w : World) (hv : Hid (Vw w g p q)) (hg : g < w.heap.size) (hvc : ∀ o, w.cell? ⟨g, o, none⟩ = (vc p q)[o]?) (hh : Hid (hearB p q 0 i h = false)) (hm : Hid (true = mayC 0 i h)) (hn0 : Hid (false = decide (i = 0 ∧ h = 0))) (hcmp : Hid (r = cmpC i h (p 0) (q 0))) (hr : r ≤ 0) :
    Calls Tryz.prog 34 #[.pointer (some ⟨g, 0, none⟩), .agg #[.int .i64 0, .int .i64 i, .int .i64 h]] w (Heard w g p q 0 i h) := by
  go_enter Tryz.func34, Tryz.ntmps34
  go_upto_region 1 with fail
  refine wp_draws _ (Below.refl _ _) (by kernel_rfl) (by kernel_rfl) (fun hne hN => ?_)
  repeat (go_big_quiet_step (first | (go_at_call 37; with_reducible exact After.calls (Rth.may1 _ _ _ _ _ hm)) | (go_at_call 38; with_reducible exact After.calls (Rth.nothing1 _ _ _ _ _ hn0)) | (go_at_call 60; with_reducible exact After.calls (Rth.compare1 _ _ _ _ _ _ _ r hcmp))))
  refine wpQuiet_nil (after_cells ?_)
  intro w2 hb2 hc2
  go_wp2_with fail
  go_ret
  exact heard_no hv.out ((Below.refl _ _).alloc (Nat.le_refl _) _ |>.trans (hb2.mono (by simp))) hh.out
set_option maxHeartbeats 2000000 in
theorem hear_yes0 (p q : Nat → Int) (g : Nat) (i h r : Int) (w : World) (hv : Hid (Vw w g p q)) (hg : g < w.heap.size) (hvc : ∀ o, w.cell? ⟨g, o, none⟩ = (vc p q)[o]?) (hf : ∀ o, w.frozen? ⟨g, o, none⟩ = false) (hh : Hid (hearB p q 0 i h = true)) (hm : Hid (true = mayC 0 i h)) (hn0 : Hid (false = decide (i = 0 ∧ h = 0))) (hcmp : Hid (r = cmpC i h (p 0) (q 0))) (hr : ¬ r ≤ 0) :
    Calls Tryz.prog 34 #[.pointer (some ⟨g, 0, none⟩), .agg #[.int .i64 0, .int .i64 i, .int .i64 h]] w (Heard w g p q 0 i h) := by
  go_enter Tryz.func34, Tryz.ntmps34
  go_upto_region 1 with fail
  refine wp_draws _ (Below.refl _ _) (by kernel_rfl) (by kernel_rfl) (fun hne hN => ?_)
  repeat (go_big_quiet_step (first | (go_at_call 37; with_reducible exact After.calls (Rth.may1 _ _ _ _ _ hm)) | (go_at_call 38; with_reducible exact After.calls (Rth.nothing1 _ _ _ _ _ hn0)) | (go_at_call 60; with_reducible exact After.calls (Rth.compare1 _ _ _ _ _ _ _ r hcmp))))
  refine wpQuiet_nil (after_cells ?_)
  intro w2 hb2 hc2
  have hf2 : ∀ o, w2.frozen? ⟨g, o, none⟩ = false := fun o => by rw [hb2.frozen (p := ⟨g, o, none⟩) (by simp; omega), World.frozen?_of_block (w := w) (a := ⟨g, o, none⟩) (Below.heap_alloc _ _ _ hg)]; exact hf o
  have hz : w.heap.size < w2.heap.size := by have := hb2.size; simp at this; omega
  go_wp2_with fail
  go_region
  go_wp2_with fail
  go_ret
  exact heard_yes (k := 0) (w2 := w2.drew) hv.out ((Below.refl _ _).alloc (Nat.le_refl _) _ |>.trans (hb2.mono (by simp))).drew rfl hh.out rfl
set_option maxHeartbeats 2000000 in
theorem hear_no1 (p q : Nat → Int) (g : Nat) (i h r : Int) (w : World) (hv : Hid (Vw w g p q)) (hg : g < w.heap.size) (hvc : ∀ o, w.cell? ⟨g, o, none⟩ = (vc p q)[o]?) (hh : Hid (hearB p q 1 i h = false)) (hm : Hid (true = mayC 1 i h)) (hn0 : Hid (false = decide (i = 0 ∧ h = 0))) (hcmp : Hid (r = cmpC i h (p 1) (q 1))) (hr : r ≤ 0) :
    Calls Tryz.prog 34 #[.pointer (some ⟨g, 0, none⟩), .agg #[.int .i64 1, .int .i64 i, .int .i64 h]] w (Heard w g p q 1 i h) := by
  go_enter Tryz.func34, Tryz.ntmps34
  go_upto_region 1 with fail
  refine wp_draws _ (Below.refl _ _) (by kernel_rfl) (by kernel_rfl) (fun hne hN => ?_)
  repeat (go_big_quiet_step (first | (go_at_call 37; with_reducible exact After.calls (Rth.may1 _ _ _ _ _ hm)) | (go_at_call 38; with_reducible exact After.calls (Rth.nothing1 _ _ _ _ _ hn0)) | (go_at_call 60; with_reducible exact After.calls (Rth.compare1 _ _ _ _ _ _ _ r hcmp))))
  refine wpQuiet_nil (after_cells ?_)
  intro w2 hb2 hc2
  go_wp2_with fail
  go_ret
  exact heard_no hv.out ((Below.refl _ _).alloc (Nat.le_refl _) _ |>.trans (hb2.mono (by simp))) hh.out
set_option maxHeartbeats 2000000 in
theorem hear_yes1 (p q : Nat → Int) (g : Nat) (i h r : Int) (w : World) (hv : Hid (Vw w g p q)) (hg : g < w.heap.size) (hvc : ∀ o, w.cell? ⟨g, o, none⟩ = (vc p q)[o]?) (hf : ∀ o, w.frozen? ⟨g, o, none⟩ = false) (hh : Hid (hearB p q 1 i h = true)) (hm : Hid (true = mayC 1 i h)) (hn0 : Hid (false = decide (i = 0 ∧ h = 0))) (hcmp : Hid (r = cmpC i h (p 1) (q 1))) (hr : ¬ r ≤ 0) :
    Calls Tryz.prog 34 #[.pointer (some ⟨g, 0, none⟩), .agg #[.int .i64 1, .int .i64 i, .int .i64 h]] w (Heard w g p q 1 i h) := by
  go_enter Tryz.func34, Tryz.ntmps34
  go_upto_region 1 with fail
  refine wp_draws _ (Below.refl _ _) (by kernel_rfl) (by kernel_rfl) (fun hne hN => ?_)
  repeat (go_big_quiet_step (first | (go_at_call 37; with_reducible exact After.calls (Rth.may1 _ _ _ _ _ hm)) | (go_at_call 38; with_reducible exact After.calls (Rth.nothing1 _ _ _ _ _ hn0)) | (go_at_call 60; with_reducible exact After.calls (Rth.compare1 _ _ _ _ _ _ _ r hcmp))))
  refine wpQuiet_nil (after_cells ?_)
  intro w2 hb2 hc2
  have hf2 : ∀ o, w2.frozen? ⟨g, o, none⟩ = false := fun o => by rw [hb2.frozen (p := ⟨g, o, none⟩) (by simp; omega), World.frozen?_of_block (w := w) (a := ⟨g, o, none⟩) (Below.heap_alloc _ _ _ hg)]; exact hf o
  have hz : w.heap.size < w2.heap.size := by have := hb2.size; simp at this; omega
  go_wp2_with fail
  go_region
  go_wp2_with fail
  go_ret
  exact heard_yes (k := 1) (w2 := w2.drew) hv.out ((Below.refl _ _).alloc (Nat.le_refl _) _ |>.trans (hb2.mono (by simp))).drew rfl hh.out rfl
set_option maxHeartbeats 2000000 in
theorem hear_no2 (p q : Nat → Int) (g : Nat) (i h r : Int) (w : World) (hv : Hid (Vw w g p q)) (hg : g < w.heap.size) (hvc : ∀ o, w.cell? ⟨g, o, none⟩ = (vc p q)[o]?) (hh : Hid (hearB p q 2 i h = false)) (hm : Hid (true = mayC 2 i h)) (hn0 : Hid (false = decide (i = 0 ∧ h = 0))) (hcmp : Hid (r = cmpC i h (p 2) (q 2))) (hr : r ≤ 0) :
    Calls Tryz.prog 34 #[.pointer (some ⟨g, 0, none⟩), .agg #[.int .i64 2, .int .i64 i, .int .i64 h]] w (Heard w g p q 2 i h) := by
  go_enter Tryz.func34, Tryz.ntmps34
  go_upto_region 1 with fail
  refine wp_draws _ (Below.refl _ _) (by kernel_rfl) (by kernel_rfl) (fun hne hN => ?_)
  repeat (go_big_quiet_step (first | (go_at_call 37; with_reducible exact After.calls (Rth.may1 _ _ _ _ _ hm)) | (go_at_call 38; with_reducible exact After.calls (Rth.nothing1 _ _ _ _ _ hn0)) | (go_at_call 60; with_reducible exact After.calls (Rth.compare1 _ _ _ _ _ _ _ r hcmp))))
  refine wpQuiet_nil (after_cells ?_)
  intro w2 hb2 hc2
  go_wp2_with fail
  go_ret
  exact heard_no hv.out ((Below.refl _ _).alloc (Nat.le_refl _) _ |>.trans (hb2.mono (by simp))) hh.out
set_option maxHeartbeats 2000000 in
theorem hear_yes2 (p q : Nat → Int) (g : Nat) (i h r : Int) (w : World) (hv : Hid (Vw w g p q)) (hg : g < w.heap.size) (hvc : ∀ o, w.cell? ⟨g, o, none⟩ = (vc p q)[o]?) (hf : ∀ o, w.frozen? ⟨g, o, none⟩ = false) (hh : Hid (hearB p q 2 i h = true)) (hm : Hid (true = mayC 2 i h)) (hn0 : Hid (false = decide (i = 0 ∧ h = 0))) (hcmp : Hid (r = cmpC i h (p 2) (q 2))) (hr : ¬ r ≤ 0) :
    Calls Tryz.prog 34 #[.pointer (some ⟨g, 0, none⟩), .agg #[.int .i64 2, .int .i64 i, .int .i64 h]] w (Heard w g p q 2 i h) := by
  go_enter Tryz.func34, Tryz.ntmps34
  go_upto_region 1 with fail
  refine wp_draws _ (Below.refl _ _) (by kernel_rfl) (by kernel_rfl) (fun hne hN => ?_)
  repeat (go_big_quiet_step (first | (go_at_call 37; with_reducible exact After.calls (Rth.may1 _ _ _ _ _ hm)) | (go_at_call 38; with_reducible exact After.calls (Rth.nothing1 _ _ _ _ _ hn0)) | (go_at_call 60; with_reducible exact After.calls (Rth.compare1 _ _ _ _ _ _ _ r hcmp))))
  refine wpQuiet_nil (after_cells ?_)
  intro w2 hb2 hc2
  have hf2 : ∀ o, w2.frozen? ⟨g, o, none⟩ = false := fun o => by rw [hb2.frozen (p := ⟨g, o, none⟩) (by simp; omega), World.frozen?_of_block (w := w) (a := ⟨g, o, none⟩) (Below.heap_alloc _ _ _ hg)]; exact hf o
  have hz : w.heap.size < w2.heap.size := by have := hb2.size; simp at this; omega
  go_wp2_with fail
  go_region
  go_wp2_with fail
  go_ret
  exact heard_yes (k := 2) (w2 := w2.drew) hv.out ((Below.refl _ _).alloc (Nat.le_refl _) _ |>.trans (hb2.mono (by simp))).drew rfl hh.out rfl
set_option maxHeartbeats 2000000 in
theorem hear_no3 (p q : Nat → Int) (g : Nat) (i h r : Int) (w : World) (hv : Hid (Vw w g p q)) (hg : g < w.heap.size) (hvc : ∀ o, w.cell? ⟨g, o, none⟩ = (vc p q)[o]?) (hh : Hid (hearB p q 3 i h = false)) (hm : Hid (true = mayC 3 i h)) (hn0 : Hid (false = decide (i = 0 ∧ h = 0))) (hcmp : Hid (r = cmpC i h (p 3) (q 3))) (hr : r ≤ 0) :
    Calls Tryz.prog 34 #[.pointer (some ⟨g, 0, none⟩), .agg #[.int .i64 3, .int .i64 i, .int .i64 h]] w (Heard w g p q 3 i h) := by
  go_enter Tryz.func34, Tryz.ntmps34
  go_upto_region 1 with fail
  refine wp_draws _ (Below.refl _ _) (by kernel_rfl) (by kernel_rfl) (fun hne hN => ?_)
  repeat (go_big_quiet_step (first | (go_at_call 37; with_reducible exact After.calls (Rth.may1 _ _ _ _ _ hm)) | (go_at_call 38; with_reducible exact After.calls (Rth.nothing1 _ _ _ _ _ hn0)) | (go_at_call 60; with_reducible exact After.calls (Rth.compare1 _ _ _ _ _ _ _ r hcmp))))
  refine wpQuiet_nil (after_cells ?_)
  intro w2 hb2 hc2
  go_wp2_with fail
  go_ret
  exact heard_no hv.out ((Below.refl _ _).alloc (Nat.le_refl _) _ |>.trans (hb2.mono (by simp))) hh.out
set_option maxHeartbeats 2000000 in
theorem hear_yes3 (p q : Nat → Int) (g : Nat) (i h r : Int) (w : World) (hv : Hid (Vw w g p q)) (hg : g < w.heap.size) (hvc : ∀ o, w.cell? ⟨g, o, none⟩ = (vc p q)[o]?) (hf : ∀ o, w.frozen? ⟨g, o, none⟩ = false) (hh : Hid (hearB p q 3 i h = true)) (hm : Hid (true = mayC 3 i h)) (hn0 : Hid (false = decide (i = 0 ∧ h = 0))) (hcmp : Hid (r = cmpC i h (p 3) (q 3))) (hr : ¬ r ≤ 0) :
    Calls Tryz.prog 34 #[.pointer (some ⟨g, 0, none⟩), .agg #[.int .i64 3, .int .i64 i, .int .i64 h]] w (Heard w g p q 3 i h) := by
  go_enter Tryz.func34, Tryz.ntmps34
  go_upto_region 1 with fail
  refine wp_draws _ (Below.refl _ _) (by kernel_rfl) (by kernel_rfl) (fun hne hN => ?_)
  repeat (go_big_quiet_step (first | (go_at_call 37; with_reducible exact After.calls (Rth.may1 _ _ _ _ _ hm)) | (go_at_call 38; with_reducible exact After.calls (Rth.nothing1 _ _ _ _ _ hn0)) | (go_at_call 60; with_reducible exact After.calls (Rth.compare1 _ _ _ _ _ _ _ r hcmp))))
  refine wpQuiet_nil (after_cells ?_)
  intro w2 hb2 hc2
  have hf2 : ∀ o, w2.frozen? ⟨g, o, none⟩ = false := fun o => by rw [hb2.frozen (p := ⟨g, o, none⟩) (by simp; omega), World.frozen?_of_block (w := w) (a := ⟨g, o, none⟩) (Below.heap_alloc _ _ _ hg)]; exact hf o
  have hz : w.heap.size < w2.heap.size := by have := hb2.size; simp at this; omega
  go_wp2_with fail
  go_region
  go_wp2_with fail
  go_ret
  exact heard_yes (k := 3) (w2 := w2.drew) hv.out ((Below.refl _ _).alloc (Nat.le_refl _) _ |>.trans (hb2.mono (by simp))).drew rfl hh.out rfl
set_option maxHeartbeats 2000000 in
theorem hear_no4 (p q : Nat → Int) (g : Nat) (i h r : Int) (w : World) (hv : Hid (Vw w g p q)) (hg : g < w.heap.size) (hvc : ∀ o, w.cell? ⟨g, o, none⟩ = (vc p q)[o]?) (hh : Hid (hearB p q 4 i h = false)) (hm : Hid (true = mayC 4 i h)) (hn0 : Hid (false = decide (i = 0 ∧ h = 0))) (hcmp : Hid (r = cmpC i h (p 4) (q 4))) (hr : r ≤ 0) :
    Calls Tryz.prog 34 #[.pointer (some ⟨g, 0, none⟩), .agg #[.int .i64 4, .int .i64 i, .int .i64 h]] w (Heard w g p q 4 i h) := by
  go_enter Tryz.func34, Tryz.ntmps34
  go_upto_region 1 with fail
  refine wp_draws _ (Below.refl _ _) (by kernel_rfl) (by kernel_rfl) (fun hne hN => ?_)
  repeat (go_big_quiet_step (first | (go_at_call 37; with_reducible exact After.calls (Rth.may1 _ _ _ _ _ hm)) | (go_at_call 38; with_reducible exact After.calls (Rth.nothing1 _ _ _ _ _ hn0)) | (go_at_call 60; with_reducible exact After.calls (Rth.compare1 _ _ _ _ _ _ _ r hcmp))))
  refine wpQuiet_nil (after_cells ?_)
  intro w2 hb2 hc2
  go_wp2_with fail
  go_ret
  exact heard_no hv.out ((Below.refl _ _).alloc (Nat.le_refl _) _ |>.trans (hb2.mono (by simp))) hh.out
set_option maxHeartbeats 2000000 in
theorem hear_yes4 (p q : Nat → Int) (g : Nat) (i h r : Int) (w : World) (hv : Hid (Vw w g p q)) (hg : g < w.heap.size) (hvc : ∀ o, w.cell? ⟨g, o, none⟩ = (vc p q)[o]?) (hf : ∀ o, w.frozen? ⟨g, o, none⟩ = false) (hh : Hid (hearB p q 4 i h = true)) (hm : Hid (true = mayC 4 i h)) (hn0 : Hid (false = decide (i = 0 ∧ h = 0))) (hcmp : Hid (r = cmpC i h (p 4) (q 4))) (hr : ¬ r ≤ 0) :
    Calls Tryz.prog 34 #[.pointer (some ⟨g, 0, none⟩), .agg #[.int .i64 4, .int .i64 i, .int .i64 h]] w (Heard w g p q 4 i h) := by
  go_enter Tryz.func34, Tryz.ntmps34
  go_upto_region 1 with fail
  refine wp_draws _ (Below.refl _ _) (by kernel_rfl) (by kernel_rfl) (fun hne hN => ?_)
  repeat (go_big_quiet_step (first | (go_at_call 37; with_reducible exact After.calls (Rth.may1 _ _ _ _ _ hm)) | (go_at_call 38; with_reducible exact After.calls (Rth.nothing1 _ _ _ _ _ hn0)) | (go_at_call 60; with_reducible exact After.calls (Rth.compare1 _ _ _ _ _ _ _ r hcmp))))
  refine wpQuiet_nil (after_cells ?_)
  intro w2 hb2 hc2
  have hf2 : ∀ o, w2.frozen? ⟨g, o, none⟩ = false := fun o => by rw [hb2.frozen (p := ⟨g, o, none⟩) (by simp; omega), World.frozen?_of_block (w := w) (a := ⟨g, o, none⟩) (Below.heap_alloc _ _ _ hg)]; exact hf o
  have hz : w.heap.size < w2.heap.size := by have := hb2.size; simp at this; omega
  go_wp2_with fail
  go_region
  go_wp2_with fail
  go_ret
  exact heard_yes (k := 4) (w2 := w2.drew) hv.out ((Below.refl _ _).alloc (Nat.le_refl _) _ |>.trans (hb2.mono (by simp))).drew rfl hh.out rfl
set_option maxHeartbeats 2000000 in
theorem hear_no5 (p q : Nat → Int) (g : Nat) (i h r : Int) (w : World) (hv : Hid (Vw w g p q)) (hg : g < w.heap.size) (hvc : ∀ o, w.cell? ⟨g, o, none⟩ = (vc p q)[o]?) (hh : Hid (hearB p q 5 i h = false)) (hm : Hid (true = mayC 5 i h)) (hn0 : Hid (false = decide (i = 0 ∧ h = 0))) (hcmp : Hid (r = cmpC i h (p 5) (q 5))) (hr : r ≤ 0) :
    Calls Tryz.prog 34 #[.pointer (some ⟨g, 0, none⟩), .agg #[.int .i64 5, .int .i64 i, .int .i64 h]] w (Heard w g p q 5 i h) := by
  go_enter Tryz.func34, Tryz.ntmps34
  go_upto_region 1 with fail
  refine wp_draws _ (Below.refl _ _) (by kernel_rfl) (by kernel_rfl) (fun hne hN => ?_)
  repeat (go_big_quiet_step (first | (go_at_call 37; with_reducible exact After.calls (Rth.may1 _ _ _ _ _ hm)) | (go_at_call 38; with_reducible exact After.calls (Rth.nothing1 _ _ _ _ _ hn0)) | (go_at_call 60; with_reducible exact After.calls (Rth.compare1 _ _ _ _ _ _ _ r hcmp))))
  refine wpQuiet_nil (after_cells ?_)
  intro w2 hb2 hc2
  go_wp2_with fail
  go_ret
  exact heard_no hv.out ((Below.refl _ _).alloc (Nat.le_refl _) _ |>.trans (hb2.mono (by simp))) hh.out
set_option maxHeartbeats 2000000 in
theorem hear_yes5 (p q : Nat → Int) (g : Nat) (i h r : Int) (w : World) (hv : Hid (Vw w g p q)) (hg : g < w.heap.size) (hvc : ∀ o, w.cell? ⟨g, o, none⟩ = (vc p q)[o]?) (hf : ∀ o, w.frozen? ⟨g, o, none⟩ = false) (hh : Hid (hearB p q 5 i h = true)) (hm : Hid (true = mayC 5 i h)) (hn0 : Hid (false = decide (i = 0 ∧ h = 0))) (hcmp : Hid (r = cmpC i h (p 5) (q 5))) (hr : ¬ r ≤ 0) :
    Calls Tryz.prog 34 #[.pointer (some ⟨g, 0, none⟩), .agg #[.int .i64 5, .int .i64 i, .int .i64 h]] w (Heard w g p q 5 i h) := by
  go_enter Tryz.func34, Tryz.ntmps34
  go_upto_region 1 with fail
  refine wp_draws _ (Below.refl _ _) (by kernel_rfl) (by kernel_rfl) (fun hne hN => ?_)
  repeat (go_big_quiet_step (first | (go_at_call 37; with_reducible exact After.calls (Rth.may1 _ _ _ _ _ hm)) | (go_at_call 38; with_reducible exact After.calls (Rth.nothing1 _ _ _ _ _ hn0)) | (go_at_call 60; with_reducible exact After.calls (Rth.compare1 _ _ _ _ _ _ _ r hcmp))))
  refine wpQuiet_nil (after_cells ?_)
  intro w2 hb2 hc2
  have hf2 : ∀ o, w2.frozen? ⟨g, o, none⟩ = false := fun o => by rw [hb2.frozen (p := ⟨g, o, none⟩) (by simp; omega), World.frozen?_of_block (w := w) (a := ⟨g, o, none⟩) (Below.heap_alloc _ _ _ hg)]; exact hf o
  have hz : w.heap.size < w2.heap.size := by have := hb2.size; simp at this; omega
  go_wp2_with fail
  go_region
  go_wp2_with fail
  go_ret
  exact heard_yes (k := 5) (w2 := w2.drew) hv.out ((Below.refl _ _).alloc (Nat.le_refl _) _ |>.trans (hb2.mono (by simp))).drew rfl hh.out rfl
set_option maxHeartbeats 2000000 in
theorem hear_no6 (p q : Nat → Int) (g : Nat) (i h r : Int) (w : World) (hv : Hid (Vw w g p q)) (hg : g < w.heap.size) (hvc : ∀ o, w.cell? ⟨g, o, none⟩ = (vc p q)[o]?) (hh : Hid (hearB p q 6 i h = false)) (hm : Hid (true = mayC 6 i h)) (hn0 : Hid (false = decide (i = 0 ∧ h = 0))) (hcmp : Hid (r = cmpC i h (p 6) (q 6))) (hr : r ≤ 0) :
    Calls Tryz.prog 34 #[.pointer (some ⟨g, 0, none⟩), .agg #[.int .i64 6, .int .i64 i, .int .i64 h]] w (Heard w g p q 6 i h) := by
  go_enter Tryz.func34, Tryz.ntmps34
  go_upto_region 1 with fail
  refine wp_draws _ (Below.refl _ _) (by kernel_rfl) (by kernel_rfl) (fun hne hN => ?_)
  repeat (go_big_quiet_step (first | (go_at_call 37; with_reducible exact After.calls (Rth.may1 _ _ _ _ _ hm)) | (go_at_call 38; with_reducible exact After.calls (Rth.nothing1 _ _ _ _ _ hn0)) | (go_at_call 60; with_reducible exact After.calls (Rth.compare1 _ _ _ _ _ _ _ r hcmp))))
  refine wpQuiet_nil (after_cells ?_)
  intro w2 hb2 hc2
  go_wp2_with fail
  go_ret
  exact heard_no hv.out ((Below.refl _ _).alloc (Nat.le_refl _) _ |>.trans (hb2.mono (by simp))) hh.out
set_option maxHeartbeats 2000000 in
theorem hear_yes6 (p q : Nat → Int) (g : Nat) (i h r : Int) (w : World) (hv : Hid (Vw w g p q)) (hg : g < w.heap.size) (hvc : ∀ o, w.cell? ⟨g, o, none⟩ = (vc p q)[o]?) (hf : ∀ o, w.frozen? ⟨g, o, none⟩ = false) (hh : Hid (hearB p q 6 i h = true)) (hm : Hid (true = mayC 6 i h)) (hn0 : Hid (false = decide (i = 0 ∧ h = 0))) (hcmp : Hid (r = cmpC i h (p 6) (q 6))) (hr : ¬ r ≤ 0) :
    Calls Tryz.prog 34 #[.pointer (some ⟨g, 0, none⟩), .agg #[.int .i64 6, .int .i64 i, .int .i64 h]] w (Heard w g p q 6 i h) := by
  go_enter Tryz.func34, Tryz.ntmps34
  go_upto_region 1 with fail
  refine wp_draws _ (Below.refl _ _) (by kernel_rfl) (by kernel_rfl) (fun hne hN => ?_)
  repeat (go_big_quiet_step (first | (go_at_call 37; with_reducible exact After.calls (Rth.may1 _ _ _ _ _ hm)) | (go_at_call 38; with_reducible exact After.calls (Rth.nothing1 _ _ _ _ _ hn0)) | (go_at_call 60; with_reducible exact After.calls (Rth.compare1 _ _ _ _ _ _ _ r hcmp))))
  refine wpQuiet_nil (after_cells ?_)
  intro w2 hb2 hc2
  have hf2 : ∀ o, w2.frozen? ⟨g, o, none⟩ = false := fun o => by rw [hb2.frozen (p := ⟨g, o, none⟩) (by simp; omega), World.frozen?_of_block (w := w) (a := ⟨g, o, none⟩) (Below.heap_alloc _ _ _ hg)]; exact hf o
  have hz : w.heap.size < w2.heap.size := by have := hb2.size; simp at this; omega
  go_wp2_with fail
  go_region
  go_wp2_with fail
  go_ret
  exact heard_yes (k := 6) (w2 := w2.drew) hv.out ((Below.refl _ _).alloc (Nat.le_refl _) _ |>.trans (hb2.mono (by simp))).drew rfl hh.out rfl
set_option maxHeartbeats 2000000 in
theorem hear_no7 (p q : Nat → Int) (g : Nat) (i h r : Int) (w : World) (hv : Hid (Vw w g p q)) (hg : g < w.heap.size) (hvc : ∀ o, w.cell? ⟨g, o, none⟩ = (vc p q)[o]?) (hh : Hid (hearB p q 7 i h = false)) (hm : Hid (true = mayC 7 i h)) (hn0 : Hid (false = decide (i = 0 ∧ h = 0))) (hcmp : Hid (r = cmpC i h (p 7) (q 7))) (hr : r ≤ 0) :
    Calls Tryz.prog 34 #[.pointer (some ⟨g, 0, none⟩), .agg #[.int .i64 7, .int .i64 i, .int .i64 h]] w (Heard w g p q 7 i h) := by
  go_enter Tryz.func34, Tryz.ntmps34
  go_upto_region 1 with fail
  refine wp_draws _ (Below.refl _ _) (by kernel_rfl) (by kernel_rfl) (fun hne hN => ?_)
  repeat (go_big_quiet_step (first | (go_at_call 37; with_reducible exact After.calls (Rth.may1 _ _ _ _ _ hm)) | (go_at_call 38; with_reducible exact After.calls (Rth.nothing1 _ _ _ _ _ hn0)) | (go_at_call 60; with_reducible exact After.calls (Rth.compare1 _ _ _ _ _ _ _ r hcmp))))
  refine wpQuiet_nil (after_cells ?_)
  intro w2 hb2 hc2
  go_wp2_with fail
  go_ret
  exact heard_no hv.out ((Below.refl _ _).alloc (Nat.le_refl _) _ |>.trans (hb2.mono (by simp))) hh.out
set_option maxHeartbeats 2000000 in
theorem hear_yes7 (p q : Nat → Int) (g : Nat) (i h r : Int) (w : World) (hv : Hid (Vw w g p q)) (hg : g < w.heap.size) (hvc : ∀ o, w.cell? ⟨g, o, none⟩ = (vc p q)[o]?) (hf : ∀ o, w.frozen? ⟨g, o, none⟩ = false) (hh : Hid (hearB p q 7 i h = true)) (hm : Hid (true = mayC 7 i h)) (hn0 : Hid (false = decide (i = 0 ∧ h = 0))) (hcmp : Hid (r = cmpC i h (p 7) (q 7))) (hr : ¬ r ≤ 0) :
    Calls Tryz.prog 34 #[.pointer (some ⟨g, 0, none⟩), .agg #[.int .i64 7, .int .i64 i, .int .i64 h]] w (Heard w g p q 7 i h) := by
  go_enter Tryz.func34, Tryz.ntmps34
  go_upto_region 1 with fail
  refine wp_draws _ (Below.refl _ _) (by kernel_rfl) (by kernel_rfl) (fun hne hN => ?_)
  repeat (go_big_quiet_step (first | (go_at_call 37; with_reducible exact After.calls (Rth.may1 _ _ _ _ _ hm)) | (go_at_call 38; with_reducible exact After.calls (Rth.nothing1 _ _ _ _ _ hn0)) | (go_at_call 60; with_reducible exact After.calls (Rth.compare1 _ _ _ _ _ _ _ r hcmp))))
  refine wpQuiet_nil (after_cells ?_)
  intro w2 hb2 hc2
  have hf2 : ∀ o, w2.frozen? ⟨g, o, none⟩ = false := fun o => by rw [hb2.frozen (p := ⟨g, o, none⟩) (by simp; omega), World.frozen?_of_block (w := w) (a := ⟨g, o, none⟩) (Below.heap_alloc _ _ _ hg)]; exact hf o
  have hz : w.heap.size < w2.heap.size := by have := hb2.size; simp at this; omega
  go_wp2_with fail
  go_region
  go_wp2_with fail
  go_ret
  exact heard_yes (k := 7) (w2 := w2.drew) hv.out ((Below.refl _ _).alloc (Nat.le_refl _) _ |>.trans (hb2.mono (by simp))).drew rfl hh.out rfl
theorem hear0 (p q : Nat → Int) (g : Nat) (n i h : Int) (w : World) (hv : Vw w g p q) :
    Calls Tryz.prog 34 #[.pointer (some ⟨g, 0, none⟩), .agg #[.int .i64 n, .int .i64 i, .int .i64 h]] w (Heard w g p q n i h) := by
  cases hm : mayC n i h with
  | false => exact hear_may p q g n i h _ w hv hv.lt hv.cell (hearB_may hm) (Hid.mk_ hm.symm) (Hid.mk_ rfl) (Hid.mk_ rfl)
  | true =>
    by_cases h0 : h = 0
    · have hi0 : i = 0 := by unfold mayC at hm; simp at hm; omega
      exact hear_none p q g n i h _ w hv hv.lt hv.cell (hearB_zero h0) (Hid.mk_ hm.symm) (Hid.mk_ (by simp [h0, hi0])) (Hid.mk_ rfl)
    · have hn : 0 ≤ n ∧ n < 8 := by unfold mayC at hm; simp at hm; omega
      have hn0 : Hid (false = decide (i = 0 ∧ h = 0)) := Hid.mk_ (by simp [h0])
      have e8 : n = 0 ∨ n = 1 ∨ n = 2 ∨ n = 3 ∨ n = 4 ∨ n = 5 ∨ n = 6 ∨ n = 7 := by omega
      rcases e8 with rfl | rfl | rfl | rfl | rfl | rfl | rfl | rfl
      · by_cases hc : cmpC i h (p 0) (q 0) ≤ 0
        · exact hear_no0 p q g i h _ w hv hv.lt hv.cell (hearB_no (n := 0) hc) (Hid.mk_ hm.symm) hn0 (Hid.mk_ rfl) hc
        · exact hear_yes0 p q g i h _ w hv hv.lt hv.cell hv.fr (hearB_yes (n := 0) hm h0 hc) (Hid.mk_ hm.symm) hn0 (Hid.mk_ rfl) hc
      · by_cases hc : cmpC i h (p 1) (q 1) ≤ 0
        · exact hear_no1 p q g i h _ w hv hv.lt hv.cell (hearB_no (n := 1) hc) (Hid.mk_ hm.symm) hn0 (Hid.mk_ rfl) hc
        · exact hear_yes1 p q g i h _ w hv hv.lt hv.cell hv.fr (hearB_yes (n := 1) hm h0 hc) (Hid.mk_ hm.symm) hn0 (Hid.mk_ rfl) hc
      · by_cases hc : cmpC i h (p 2) (q 2) ≤ 0
        · exact hear_no2 p q g i h _ w hv hv.lt hv.cell (hearB_no (n := 2) hc) (Hid.mk_ hm.symm) hn0 (Hid.mk_ rfl) hc
        · exact hear_yes2 p q g i h _ w hv hv.lt hv.cell hv.fr (hearB_yes (n := 2) hm h0 hc) (Hid.mk_ hm.symm) hn0 (Hid.mk_ rfl) hc
      · by_cases hc : cmpC i h (p 3) (q 3) ≤ 0
        · exact hear_no3 p q g i h _ w hv hv.lt hv.cell (hearB_no (n := 3) hc) (Hid.mk_ hm.symm) hn0 (Hid.mk_ rfl) hc
        · exact hear_yes3 p q g i h _ w hv hv.lt hv.cell hv.fr (hearB_yes (n := 3) hm h0 hc) (Hid.mk_ hm.symm) hn0 (Hid.mk_ rfl) hc
      · by_cases hc : cmpC i h (p 4) (q 4) ≤ 0
        · exact hear_no4 p q g i h _ w hv hv.lt hv.cell (hearB_no (n := 4) hc) (Hid.mk_ hm.symm) hn0 (Hid.mk_ rfl) hc
        · exact hear_yes4 p q g i h _ w hv hv.lt hv.cell hv.fr (hearB_yes (n := 4) hm h0 hc) (Hid.mk_ hm.symm) hn0 (Hid.mk_ rfl) hc
      · by_cases hc : cmpC i h (p 5) (q 5) ≤ 0
        · exact hear_no5 p q g i h _ w hv hv.lt hv.cell (hearB_no (n := 5) hc) (Hid.mk_ hm.symm) hn0 (Hid.mk_ rfl) hc
        · exact hear_yes5 p q g i h _ w hv hv.lt hv.cell hv.fr (hearB_yes (n := 5) hm h0 hc) (Hid.mk_ hm.symm) hn0 (Hid.mk_ rfl) hc
      · by_cases hc : cmpC i h (p 6) (q 6) ≤ 0
        · exact hear_no6 p q g i h _ w hv hv.lt hv.cell (hearB_no (n := 6) hc) (Hid.mk_ hm.symm) hn0 (Hid.mk_ rfl) hc
        · exact hear_yes6 p q g i h _ w hv hv.lt hv.cell hv.fr (hearB_yes (n := 6) hm h0 hc) (Hid.mk_ hm.symm) hn0 (Hid.mk_ rfl) hc
      · by_cases hc : cmpC i h (p 7) (q 7) ≤ 0
        · exact hear_no7 p q g i h _ w hv hv.lt hv.cell (hearB_no (n := 7) hc) (Hid.mk_ hm.symm) hn0 (Hid.mk_ rfl) hc
        · exact hear_yes7 p q g i h _ w hv hv.lt hv.cell hv.fr (hearB_yes (n := 7) hm h0 hc) (Hid.mk_ hm.symm) hn0 (Hid.mk_ rfl) hc
set_option maxHeartbeats 2000000 in
theorem of0 (p q : Nat → Int) (g : Nat) (n : Int) (w : World) (hv : Vw w g p q) :
    Calls Tryz.prog 24 #[.pointer (some ⟨g, 0, none⟩), .int .i64 n] w fun e w' => e = .returned (.agg #[.int .i64 (onN n), .int .i64 (on p n), .int .i64 (on q n)]) ∧ Below w.heap.size w w' := by
  have hg := hv.lt
  have hvc := hv.cell
  have HV := Hid.mk_ hv
  clear hv
  by_cases hn : 0 ≤ n ∧ n < 8
  · have NB : Hid (true = nodeB n) := Hid.mk_ (by unfold nodeB; simp [hn])
    have e8 : n = 0 ∨ n = 1 ∨ n = 2 ∨ n = 3 ∨ n = 4 ∨ n = 5 ∨ n = 6 ∨ n = 7 := by omega
    rcases e8 with rfl | rfl | rfl | rfl | rfl | rfl | rfl | rfl
    all_goals
      clear hn
      go_enter Tryz.func24, Tryz.ntmps24
      go_wp2_with (go_at_call 31; refine (Rth.node1 _ _ true NB).mono ?_; rintro e w2 ⟨rfl, e2⟩; have e3 := e2.symm; subst e3)
      go_returns
      exact ⟨rfl, by go_grown⟩
  · have NB : Hid (false = nodeB n) := Hid.mk_ (by unfold nodeB; simp; omega)
    have e1 : onN n = 0 := by unfold onN; rw [if_neg hn]
    have e2 : on p n = 0 := by unfold on; rw [if_neg hn]
    have e3 : on q n = 0 := by unfold on; rw [if_neg hn]
    rw [e1, e2, e3]
    clear e1 e2 e3 hn
    go_enter Tryz.func24, Tryz.ntmps24
    go_wp2_with (go_at_call 31; refine (Rth.node1 _ _ false NB).mono ?_; rintro e w2 ⟨rfl, e2⟩; have e3 := e2.symm; subst e3)
    go_returns
    exact ⟨rfl, by go_grown⟩
end Go.Proofs.YthndjhocmpelcaaGreat.Rvw
