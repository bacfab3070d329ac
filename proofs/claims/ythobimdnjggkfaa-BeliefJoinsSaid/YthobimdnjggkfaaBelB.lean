/- Chapter 2: a view and what is done with one: the contracts. Conditions: the view lies in a block of its own. -/
import Derived.Test.YthobimdnjggkfaaBelA
import Derived.Deep.DeepCutAuto
import Derived.BigRegion
namespace Go.Proofs.Ythobimdnjggkfaa.Bel
open Go.RowKit Kit PBeliefJoins
set_option linter.unusedVariables false
/-- The cells of a view: of node i: i, its incarnation, its health. -/
@[reducible] def vc (p q : Nat → Int) : Array Value := #[.int .i64 0, .int .i64 (p 0), .int .i64 (q 0), .int .i64 1, .int .i64 (p 1), .int .i64 (q 1), .int .i64 2, .int .i64 (p 2), .int .i64 (q 2), .int .i64 3, .int .i64 (p 3), .int .i64 (q 3), .int .i64 4, .int .i64 (p 4), .int .i64 (q 4), .int .i64 5, .int .i64 (p 5), .int .i64 (q 5), .int .i64 6, .int .i64 (p 6), .int .i64 (q 6), .int .i64 7, .int .i64 (p 7), .int .i64 (q 7)]
/-- In the world w the view lies in block g. -/
def Vw (w : World) (g : Nat) (p q : Nat → Int) : Prop := w.heap[g]? = some (.cells (vc p q) 71 (0, 0))
def z8 : Nat → Int := fun _ => 0
theorem Vw.cell {w : World} {g : Nat} {p q : Nat → Int} (h : Vw w g p q) (i : Nat) : w.cell? ⟨g, i, none⟩ = (vc p q)[i]? := cell_of_row w g i (vc p q) 71 (0, 0) h
theorem Vw.lt {w : World} {g : Nat} {p q : Nat → Int} (h : Vw w g p q) : g < w.heap.size := by
  rcases Nat.lt_or_ge g w.heap.size with h1 | h1
  · exact h1
  · unfold Vw at h; rw [Array.getElem?_eq_none h1] at h; cases h
theorem Vw.below {w w' : World} {g B : Nat} {p q : Nat → Int} (h : Vw w g p q) (hb : Below B w w') (hg : g < B) : Vw w' g p q := (hb.block g hg).trans h
theorem heap_new (w : World) (o : Obj) : (w.alloc o).heap[w.heap.size]? = some o := heap_alloc_new w o
/-- 'New': a view of which nothing is said, in new memory. -/
def MadeView (w : World) (e : Ending) (w' : World) : Prop := ∃ g, e = .returned (.pointer (some ⟨g, 0, none⟩)) ∧ w.heap.size ≤ g ∧ Vw w' g z8 z8 ∧ Below w.heap.size w w'
set_option maxHeartbeats 2000000 in
theorem new0 (w : World) : Calls Try.prog 26 #[] w (MadeView w) := by
  go_enter Try.func26, Try.ntmps26
  go_wp2_with fail
  go_rounds 9
  go_returns
  exact ⟨w.heap.size, rfl, Nat.le_refl _, heap_new w _, by go_grown⟩


/-- Is it heard? -/
def hearB (p q : Nat → Int) (n i h : Int) : Bool := mayC n i h && (!(h == 0) && decide (0 < cmpC i h (p n.toNat) (q n.toNat)))
def upd (p : Nat → Int) (n i : Int) (b : Bool) : Nat → Int := fun j => if b = true ∧ n = (j : Int) then i else p j
theorem upd_false (p : Nat → Int) (n i : Int) : upd p n i false = p := by funext j; simp [upd]
/-- What Hear leaves: the view with the claim, if it is louder; all else as it was, but for new memory. -/
def Heard (w : World) (g : Nat) (p q : Nat → Int) (n i h : Int) (e : Ending) (w' : World) : Prop :=
  e = .returned (.bool (hearB p q n i h)) ∧ Vw w' g (upd p n i (hearB p q n i h)) (upd q n h (hearB p q n i h)) ∧ w.grownBy w' (some g)
theorem grown_of_below {w w' : World} {row : Option Nat} (h : Below w.heap.size w w') : w.grownBy w' row := ⟨h.os, h.tape, h.output, h.size, fun i hi _ => h.block i hi⟩
theorem heard_no {w w' : World} {g : Nat} {p q : Nat → Int} {n i h : Int} (hv : Vw w g p q) (hb : Below w.heap.size w w') (hh : hearB p q n i h = false) : Heard w g p q n i h (.returned (.bool false)) w' := by
  refine ⟨by rw [hh], ?_, grown_of_below hb⟩
  rw [hh, upd_false, upd_false]
  exact hv.below hb hv.lt
theorem heard_yes {w w2 w' : World} {g : Nat} {p q : Nat → Int} {n i h : Int} {k : Nat} (hv : Vw w g p q) (hb : Below w.heap.size w w2) (hw : w' = ((w2.setCell ⟨g, 3 * k, none⟩ (.int .i64 n)).setCell ⟨g, 3 * k + 1, none⟩ (.int .i64 i)).setCell ⟨g, 3 * k + 2, none⟩ (.int .i64 h))
    (hh : hearB p q n i h = true) (hc : (((vc p q).setIfInBounds (3 * k) (.int .i64 n)).setIfInBounds (3 * k + 1) (.int .i64 i)).setIfInBounds (3 * k + 2) (.int .i64 h) = vc (upd p n i true) (upd q n h true)) : Heard w g p q n i h (.returned (.bool true)) w' := by
  subst hw
  have h2 : w2.heap[g]? = some (.cells (vc p q) 71 (0, 0)) := hv.below hb hv.lt
  have h3 := heap_setCell_same _ g (3 * k) _ 71 (.int .i64 n) h2
  have h4 := heap_setCell_same _ g (3 * k + 1) _ 71 (.int .i64 i) h3
  have h5 := heap_setCell_same _ g (3 * k + 2) _ 71 (.int .i64 h) h4
  refine ⟨by rw [hh], ?_, ?_⟩
  · rw [hh]; unfold Vw; rw [h5, hc]
  · refine ⟨hb.os, hb.tape, hb.output, by simpa [World.setCell] using hb.size, fun j hj hne => ?_⟩
    have hjg : j ≠ g := fun e => hne (by rw [e])
    rw [heap_setCell_other _ _ _ _ hjg, heap_setCell_other _ _ _ _ hjg, heap_setCell_other _ _ _ _ hjg]
    exact hb.block j hj

set_option maxHeartbeats 2000000 in
theorem hear_may (p q : Nat → Int) (g : Nat) (n i h r : Int) (w : World) (hv : Hid (Vw w g p q)) (hg : g < w.heap.size) (hvc : ∀ o, w.cell? ⟨g, o, none⟩ = (vc p q)[o]?) (hh : Hid (hearB p q n i h = false)) (hm : Hid (mayC n i h = false)) (hcmp : Hid (cmpC i h i h = r)) :
    Calls Try.prog 33 #[.pointer (some ⟨g, 0, none⟩), .agg #[.int .i64 n, .int .i64 i, .int .i64 h]] w (Heard w g p q n i h) := by
  go_enter Try.func33, Try.ntmps33
  go_upto_region 1 with fail
  refine wp_draws _ (Below.refl _ _) (by kernel_rfl) (by kernel_rfl) (fun hne hN => ?_)
  repeat (go_big_quiet_step (first | (go_at_call 46; with_reducible exact After.calls (may1 hm.out _)) | (go_at_call 32; with_reducible exact After.calls (compare1 hcmp.out _))))
  refine wpQuiet_nil (after_cells ?_)
  intro w2 hb2 hc2
  go_wp2_with fail
  go_ret
  exact heard_no hv.out ((Below.refl _ _).alloc (Nat.le_refl _) _ |>.trans (hb2.mono (by simp))) hh.out

set_option maxHeartbeats 2000000 in
theorem hear_none (p q : Nat → Int) (g : Nat) (n i h r : Int) (w : World) (hv : Hid (Vw w g p q)) (hg : g < w.heap.size) (hvc : ∀ o, w.cell? ⟨g, o, none⟩ = (vc p q)[o]?) (hh : Hid (hearB p q n i h = false)) (hm : Hid (mayC n i h = true)) (h0 : (h == 0) = true) (hcmp : Hid (cmpC i h i h = r)) :
    Calls Try.prog 33 #[.pointer (some ⟨g, 0, none⟩), .agg #[.int .i64 n, .int .i64 i, .int .i64 h]] w (Heard w g p q n i h) := by
  go_enter Try.func33, Try.ntmps33
  go_upto_region 1 with fail
  refine wp_draws _ (Below.refl _ _) (by kernel_rfl) (by kernel_rfl) (fun hne hN => ?_)
  repeat (go_big_quiet_step (first | (go_at_call 46; with_reducible exact After.calls (may1 hm.out _)) | (go_at_call 32; with_reducible exact After.calls (compare1 hcmp.out _))))
  refine wpQuiet_nil (after_cells ?_)
  intro w2 hb2 hc2
  go_wp2_with fail
  go_ret
  exact heard_no hv.out ((Below.refl _ _).alloc (Nat.le_refl _) _ |>.trans (hb2.mono (by simp))) hh.out

set_option maxHeartbeats 2000000 in
theorem hear_no0 (p q : Nat → Int) (g : Nat) ( i h r : Int) (w : World) (hv : Hid (Vw w g p q)) (hg : g < w.heap.size) (hvc : ∀ o, w.cell? ⟨g, o, none⟩ = (vc p q)[o]?) (hh : Hid (hearB p q 0 i h = false)) (hm : Hid (mayC 0 i h = true)) (h0 : (h == 0) = false) (hcmp : Hid (cmpC i h (p 0) (q 0) = r)) (hr : decide (r ≤ 0) = true) :
    Calls Try.prog 33 #[.pointer (some ⟨g, 0, none⟩), .agg #[.int .i64 0, .int .i64 i, .int .i64 h]] w (Heard w g p q 0 i h) := by
  go_enter Try.func33, Try.ntmps33
  go_upto_region 1 with fail
  refine wp_draws _ (Below.refl _ _) (by kernel_rfl) (by kernel_rfl) (fun hne hN => ?_)
  repeat (go_big_quiet_step (first | (go_at_call 46; with_reducible exact After.calls (may1 hm.out _)) | (go_at_call 32; with_reducible exact After.calls (compare1 hcmp.out _))))
  refine wpQuiet_nil (after_cells ?_)
  intro w2 hb2 hc2
  go_wp2_with fail
  go_ret
  exact heard_no hv.out ((Below.refl _ _).alloc (Nat.le_refl _) _ |>.trans (hb2.mono (by simp))) hh.out

set_option maxHeartbeats 2000000 in
theorem hear_yes0 (p q : Nat → Int) (g : Nat) (i h r : Int) (w : World) (hv : Hid (Vw w g p q)) (hg : g < w.heap.size) (hvc : ∀ o, w.cell? ⟨g, o, none⟩ = (vc p q)[o]?) (hf : ∀ o, w.frozen? ⟨g, o, none⟩ = false) (hh : Hid (hearB p q 0 i h = true)) (hm : Hid (mayC 0 i h = true)) (h0 : (h == 0) = false) (hcmp : Hid (cmpC i h (p 0) (q 0) = r)) (hr : decide (r ≤ 0) = false) :
    Calls Try.prog 33 #[.pointer (some ⟨g, 0, none⟩), .agg #[.int .i64 0, .int .i64 i, .int .i64 h]] w (Heard w g p q 0 i h) := by
  go_enter Try.func33, Try.ntmps33
  go_upto_region 1 with fail
  refine wp_draws _ (Below.refl _ _) (by kernel_rfl) (by kernel_rfl) (fun hne hN => ?_)
  repeat (go_big_quiet_step (first | (go_at_call 46; with_reducible exact After.calls (may1 hm.out _)) | (go_at_call 32; with_reducible exact After.calls (compare1 hcmp.out _))))
  refine wpQuiet_nil (after_cells ?_)
  intro w2 hb2 hc2
  have hf2 : ∀ o, w2.frozen? ⟨g, o, none⟩ = false := fun o => by rw [hb2.frozen (p := ⟨g, o, none⟩) (by simp; omega), World.frozen?_of_block (w := w) (a := ⟨g, o, none⟩) (Below.heap_alloc _ _ _ hg)]; exact hf o
  have hz : w.heap.size < w2.heap.size := by have := hb2.size; simp at this; omega
  go_wp2_with fail
  go_region
  go_wp2_with fail
  go_ret
  exact heard_yes (k := 0) (w2 := w2.drew) hv.out ((Below.refl _ _).alloc (Nat.le_refl _) _ |>.trans (hb2.mono (by simp))).drew rfl hh.out rfl

set_option maxHeartbeats 2000000 in
theorem hear_no1 (p q : Nat → Int) (g : Nat) ( i h r : Int) (w : World) (hv : Hid (Vw w g p q)) (hg : g < w.heap.size) (hvc : ∀ o, w.cell? ⟨g, o, none⟩ = (vc p q)[o]?) (hh : Hid (hearB p q 1 i h = false)) (hm : Hid (mayC 1 i h = true)) (h0 : (h == 0) = false) (hcmp : Hid (cmpC i h (p 1) (q 1) = r)) (hr : decide (r ≤ 0) = true) :
    Calls Try.prog 33 #[.pointer (some ⟨g, 0, none⟩), .agg #[.int .i64 1, .int .i64 i, .int .i64 h]] w (Heard w g p q 1 i h) := by
  go_enter Try.func33, Try.ntmps33
  go_upto_region 1 with fail
  refine wp_draws _ (Below.refl _ _) (by kernel_rfl) (by kernel_rfl) (fun hne hN => ?_)
  repeat (go_big_quiet_step (first | (go_at_call 46; with_reducible exact After.calls (may1 hm.out _)) | (go_at_call 32; with_reducible exact After.calls (compare1 hcmp.out _))))
  refine wpQuiet_nil (after_cells ?_)
  intro w2 hb2 hc2
  go_wp2_with fail
  go_ret
  exact heard_no hv.out ((Below.refl _ _).alloc (Nat.le_refl _) _ |>.trans (hb2.mono (by simp))) hh.out

set_option maxHeartbeats 2000000 in
theorem hear_yes1 (p q : Nat → Int) (g : Nat) (i h r : Int) (w : World) (hv : Hid (Vw w g p q)) (hg : g < w.heap.size) (hvc : ∀ o, w.cell? ⟨g, o, none⟩ = (vc p q)[o]?) (hf : ∀ o, w.frozen? ⟨g, o, none⟩ = false) (hh : Hid (hearB p q 1 i h = true)) (hm : Hid (mayC 1 i h = true)) (h0 : (h == 0) = false) (hcmp : Hid (cmpC i h (p 1) (q 1) = r)) (hr : decide (r ≤ 0) = false) :
    Calls Try.prog 33 #[.pointer (some ⟨g, 0, none⟩), .agg #[.int .i64 1, .int .i64 i, .int .i64 h]] w (Heard w g p q 1 i h) := by
  go_enter Try.func33, Try.ntmps33
  go_upto_region 1 with fail
  refine wp_draws _ (Below.refl _ _) (by kernel_rfl) (by kernel_rfl) (fun hne hN => ?_)
  repeat (go_big_quiet_step (first | (go_at_call 46; with_reducible exact After.calls (may1 hm.out _)) | (go_at_call 32; with_reducible exact After.calls (compare1 hcmp.out _))))
  refine wpQuiet_nil (after_cells ?_)
  intro w2 hb2 hc2
  have hf2 : ∀ o, w2.frozen? ⟨g, o, none⟩ = false := fun o => by rw [hb2.frozen (p := ⟨g, o, none⟩) (by simp; omega), World.frozen?_of_block (w := w) (a := ⟨g, o, none⟩) (Below.heap_alloc _ _ _ hg)]; exact hf o
  have hz : w.heap.size < w2.heap.size := by have := hb2.size; simp at this; omega
  go_wp2_with fail
  go_region
  go_wp2_with fail
  go_ret
  exact heard_yes (k := 1) (w2 := w2.drew) hv.out ((Below.refl _ _).alloc (Nat.le_refl _) _ |>.trans (hb2.mono (by simp))).drew rfl hh.out rfl

set_option maxHeartbeats 2000000 in
theorem hear_no2 (p q : Nat → Int) (g : Nat) ( i h r : Int) (w : World) (hv : Hid (Vw w g p q)) (hg : g < w.heap.size) (hvc : ∀ o, w.cell? ⟨g, o, none⟩ = (vc p q)[o]?) (hh : Hid (hearB p q 2 i h = false)) (hm : Hid (mayC 2 i h = true)) (h0 : (h == 0) = false) (hcmp : Hid (cmpC i h (p 2) (q 2) = r)) (hr : decide (r ≤ 0) = true) :
    Calls Try.prog 33 #[.pointer (some ⟨g, 0, none⟩), .agg #[.int .i64 2, .int .i64 i, .int .i64 h]] w (Heard w g p q 2 i h) := by
  go_enter Try.func33, Try.ntmps33
  go_upto_region 1 with fail
  refine wp_draws _ (Below.refl _ _) (by kernel_rfl) (by kernel_rfl) (fun hne hN => ?_)
  repeat (go_big_quiet_step (first | (go_at_call 46; with_reducible exact After.calls (may1 hm.out _)) | (go_at_call 32; with_reducible exact After.calls (compare1 hcmp.out _))))
  refine wpQuiet_nil (after_cells ?_)
  intro w2 hb2 hc2
  go_wp2_with fail
  go_ret
  exact heard_no hv.out ((Below.refl _ _).alloc (Nat.le_refl _) _ |>.trans (hb2.mono (by simp))) hh.out

set_option maxHeartbeats 2000000 in
theorem hear_yes2 (p q : Nat → Int) (g : Nat) (i h r : Int) (w : World) (hv : Hid (Vw w g p q)) (hg : g < w.heap.size) (hvc : ∀ o, w.cell? ⟨g, o, none⟩ = (vc p q)[o]?) (hf : ∀ o, w.frozen? ⟨g, o, none⟩ = false) (hh : Hid (hearB p q 2 i h = true)) (hm : Hid (mayC 2 i h = true)) (h0 : (h == 0) = false) (hcmp : Hid (cmpC i h (p 2) (q 2) = r)) (hr : decide (r ≤ 0) = false) :
    Calls Try.prog 33 #[.pointer (some ⟨g, 0, none⟩), .agg #[.int .i64 2, .int .i64 i, .int .i64 h]] w (Heard w g p q 2 i h) := by
  go_enter Try.func33, Try.ntmps33
  go_upto_region 1 with fail
  refine wp_draws _ (Below.refl _ _) (by kernel_rfl) (by kernel_rfl) (fun hne hN => ?_)
  repeat (go_big_quiet_step (first | (go_at_call 46; with_reducible exact After.calls (may1 hm.out _)) | (go_at_call 32; with_reducible exact After.calls (compare1 hcmp.out _))))
  refine wpQuiet_nil (after_cells ?_)
  intro w2 hb2 hc2
  have hf2 : ∀ o, w2.frozen? ⟨g, o, none⟩ = false := fun o => by rw [hb2.frozen (p := ⟨g, o, none⟩) (by simp; omega), World.frozen?_of_block (w := w) (a := ⟨g, o, none⟩) (Below.heap_alloc _ _ _ hg)]; exact hf o
  have hz : w.heap.size < w2.heap.size := by have := hb2.size; simp at this; omega
  go_wp2_with fail
  go_region
  go_wp2_with fail
  go_ret
  exact heard_yes (k := 2) (w2 := w2.drew) hv.out ((Below.refl _ _).alloc (Nat.le_refl _) _ |>.trans (hb2.mono (by simp))).drew rfl hh.out rfl

set_option maxHeartbeats 2000000 in
theorem hear_no3 (p q : Nat → Int) (g : Nat) ( i h r : Int) (w : World) (hv : Hid (Vw w g p q)) (hg : g < w.heap.size) (hvc : ∀ o, w.cell? ⟨g, o, none⟩ = (vc p q)[o]?) (hh : Hid (hearB p q 3 i h = false)) (hm : Hid (mayC 3 i h = true)) (h0 : (h == 0) = false) (hcmp : Hid (cmpC i h (p 3) (q 3) = r)) (hr : decide (r ≤ 0) = true) :
    Calls Try.prog 33 #[.pointer (some ⟨g, 0, none⟩), .agg #[.int .i64 3, .int .i64 i, .int .i64 h]] w (Heard w g p q 3 i h) := by
  go_enter Try.func33, Try.ntmps33
  go_upto_region 1 with fail
  refine wp_draws _ (Below.refl _ _) (by kernel_rfl) (by kernel_rfl) (fun hne hN => ?_)
  repeat (go_big_quiet_step (first | (go_at_call 46; with_reducible exact After.calls (may1 hm.out _)) | (go_at_call 32; with_reducible exact After.calls (compare1 hcmp.out _))))
  refine wpQuiet_nil (after_cells ?_)
  intro w2 hb2 hc2
  go_wp2_with fail
  go_ret
  exact heard_no hv.out ((Below.refl _ _).alloc (Nat.le_refl _) _ |>.trans (hb2.mono (by simp))) hh.out

set_option maxHeartbeats 2000000 in
theorem hear_yes3 (p q : Nat → Int) (g : Nat) (i h r : Int) (w : World) (hv : Hid (Vw w g p q)) (hg : g < w.heap.size) (hvc : ∀ o, w.cell? ⟨g, o, none⟩ = (vc p q)[o]?) (hf : ∀ o, w.frozen? ⟨g, o, none⟩ = false) (hh : Hid (hearB p q 3 i h = true)) (hm : Hid (mayC 3 i h = true)) (h0 : (h == 0) = false) (hcmp : Hid (cmpC i h (p 3) (q 3) = r)) (hr : decide (r ≤ 0) = false) :
    Calls Try.prog 33 #[.pointer (some ⟨g, 0, none⟩), .agg #[.int .i64 3, .int .i64 i, .int .i64 h]] w (Heard w g p q 3 i h) := by
  go_enter Try.func33, Try.ntmps33
  go_upto_region 1 with fail
  refine wp_draws _ (Below.refl _ _) (by kernel_rfl) (by kernel_rfl) (fun hne hN => ?_)
  repeat (go_big_quiet_step (first | (go_at_call 46; with_reducible exact After.calls (may1 hm.out _)) | (go_at_call 32; with_reducible exact After.calls (compare1 hcmp.out _))))
  refine wpQuiet_nil (after_cells ?_)
  intro w2 hb2 hc2
  have hf2 : ∀ o, w2.frozen? ⟨g, o, none⟩ = false := fun o => by rw [hb2.frozen (p := ⟨g, o, none⟩) (by simp; omega), World.frozen?_of_block (w := w) (a := ⟨g, o, none⟩) (Below.heap_alloc _ _ _ hg)]; exact hf o
  have hz : w.heap.size < w2.heap.size := by have := hb2.size; simp at this; omega
  go_wp2_with fail
  go_region
  go_wp2_with fail
  go_ret
  exact heard_yes (k := 3) (w2 := w2.drew) hv.out ((Below.refl _ _).alloc (Nat.le_refl _) _ |>.trans (hb2.mono (by simp))).drew rfl hh.out rfl

set_option maxHeartbeats 2000000 in
theorem hear_no4 (p q : Nat → Int) (g : Nat) ( i h r : Int) (w : World) (hv : Hid (Vw w g p q)) (hg : g < w.heap.size) (hvc : ∀ o, w.cell? ⟨g, o, none⟩ = (vc p q)[o]?) (hh : Hid (hearB p q 4 i h = false)) (hm : Hid (mayC 4 i h = true)) (h0 : (h == 0) = false) (hcmp : Hid (cmpC i h (p 4) (q 4) = r)) (hr : decide (r ≤ 0) = true) :
    Calls Try.prog 33 #[.pointer (some ⟨g, 0, none⟩), .agg #[.int .i64 4, .int .i64 i, .int .i64 h]] w (Heard w g p q 4 i h) := by
  go_enter Try.func33, Try.ntmps33
  go_upto_region 1 with fail
  refine wp_draws _ (Below.refl _ _) (by kernel_rfl) (by kernel_rfl) (fun hne hN => ?_)
  repeat (go_big_quiet_step (first | (go_at_call 46; with_reducible exact After.calls (may1 hm.out _)) | (go_at_call 32; with_reducible exact After.calls (compare1 hcmp.out _))))
  refine wpQuiet_nil (after_cells ?_)
  intro w2 hb2 hc2
  go_wp2_with fail
  go_ret
  exact heard_no hv.out ((Below.refl _ _).alloc (Nat.le_refl _) _ |>.trans (hb2.mono (by simp))) hh.out

set_option maxHeartbeats 2000000 in
theorem hear_yes4 (p q : Nat → Int) (g : Nat) (i h r : Int) (w : World) (hv : Hid (Vw w g p q)) (hg : g < w.heap.size) (hvc : ∀ o, w.cell? ⟨g, o, none⟩ = (vc p q)[o]?) (hf : ∀ o, w.frozen? ⟨g, o, none⟩ = false) (hh : Hid (hearB p q 4 i h = true)) (hm : Hid (mayC 4 i h = true)) (h0 : (h == 0) = false) (hcmp : Hid (cmpC i h (p 4) (q 4) = r)) (hr : decide (r ≤ 0) = false) :
    Calls Try.prog 33 #[.pointer (some ⟨g, 0, none⟩), .agg #[.int .i64 4, .int .i64 i, .int .i64 h]] w (Heard w g p q 4 i h) := by
  go_enter Try.func33, Try.ntmps33
  go_upto_region 1 with fail
  refine wp_draws _ (Below.refl _ _) (by kernel_rfl) (by kernel_rfl) (fun hne hN => ?_)
  repeat (go_big_quiet_step (first | (go_at_call 46; with_reducible exact After.calls (may1 hm.out _)) | (go_at_call 32; with_reducible exact After.calls (compare1 hcmp.out _))))
  refine wpQuiet_nil (after_cells ?_)
  intro w2 hb2 hc2
  have hf2 : ∀ o, w2.frozen? ⟨g, o, none⟩ = false := fun o => by rw [hb2.frozen (p := ⟨g, o, none⟩) (by simp; omega), World.frozen?_of_block (w := w) (a := ⟨g, o, none⟩) (Below.heap_alloc _ _ _ hg)]; exact hf o
  have hz : w.heap.size < w2.heap.size := by have := hb2.size; simp at this; omega
  go_wp2_with fail
  go_region
  go_wp2_with fail
  go_ret
  exact heard_yes (k := 4) (w2 := w2.drew) hv.out ((Below.refl _ _).alloc (Nat.le_refl _) _ |>.trans (hb2.mono (by simp))).drew rfl hh.out rfl

set_option maxHeartbeats 2000000 in
theorem hear_no5 (p q : Nat → Int) (g : Nat) ( i h r : Int) (w : World) (hv : Hid (Vw w g p q)) (hg : g < w.heap.size) (hvc : ∀ o, w.cell? ⟨g, o, none⟩ = (vc p q)[o]?) (hh : Hid (hearB p q 5 i h = false)) (hm : Hid (mayC 5 i h = true)) (h0 : (h == 0) = false) (hcmp : Hid (cmpC i h (p 5) (q 5) = r)) (hr : decide (r ≤ 0) = true) :
    Calls Try.prog 33 #[.pointer (some ⟨g, 0, none⟩), .agg #[.int .i64 5, .int .i64 i, .int .i64 h]] w (Heard w g p q 5 i h) := by
  go_enter Try.func33, Try.ntmps33
  go_upto_region 1 with fail
  refine wp_draws _ (Below.refl _ _) (by kernel_rfl) (by kernel_rfl) (fun hne hN => ?_)
  repeat (go_big_quiet_step (first | (go_at_call 46; with_reducible exact After.calls (may1 hm.out _)) | (go_at_call 32; with_reducible exact After.calls (compare1 hcmp.out _))))
  refine wpQuiet_nil (after_cells ?_)
  intro w2 hb2 hc2
  go_wp2_with fail
  go_ret
  exact heard_no hv.out ((Below.refl _ _).alloc (Nat.le_refl _) _ |>.trans (hb2.mono (by simp))) hh.out

set_option maxHeartbeats 2000000 in
theorem hear_yes5 (p q : Nat → Int) (g : Nat) (i h r : Int) (w : World) (hv : Hid (Vw w g p q)) (hg : g < w.heap.size) (hvc : ∀ o, w.cell? ⟨g, o, none⟩ = (vc p q)[o]?) (hf : ∀ o, w.frozen? ⟨g, o, none⟩ = false) (hh : Hid (hearB p q 5 i h = true)) (hm : Hid (mayC 5 i h = true)) (h0 : (h == 0) = false) (hcmp : Hid (cmpC i h (p 5) (q 5) = r)) (hr : decide (r ≤ 0) = false) :
    Calls Try.prog 33 #[.pointer (some ⟨g, 0, none⟩), .agg #[.int .i64 5, .int .i64 i, .int .i64 h]] w (Heard w g p q 5 i h) := by
  go_enter Try.func33, Try.ntmps33
  go_upto_region 1 with fail
  refine wp_draws _ (Below.refl _ _) (by kernel_rfl) (by kernel_rfl) (fun hne hN => ?_)
  repeat (go_big_quiet_step (first | (go_at_call 46; with_reducible exact After.calls (may1 hm.out _)) | (go_at_call 32; with_reducible exact After.calls (compare1 hcmp.out _))))
  refine wpQuiet_nil (after_cells ?_)
  intro w2 hb2 hc2
  have hf2 : ∀ o, w2.frozen? ⟨g, o, none⟩ = false := fun o => by rw [hb2.frozen (p := ⟨g, o, none⟩) (by simp; omega), World.frozen?_of_block (w := w) (a := ⟨g, o, none⟩) (Below.heap_alloc _ _ _ hg)]; exact hf o
  have hz : w.heap.size < w2.heap.size := by have := hb2.size; simp at this; omega
  go_wp2_with fail
  go_region
  go_wp2_with fail
  go_ret
  exact heard_yes (k := 5) (w2 := w2.drew) hv.out ((Below.refl _ _).alloc (Nat.le_refl _) _ |>.trans (hb2.mono (by simp))).drew rfl hh.out rfl

set_option maxHeartbeats 2000000 in
theorem hear_no6 (p q : Nat → Int) (g : Nat) ( i h r : Int) (w : World) (hv : Hid (Vw w g p q)) (hg : g < w.heap.size) (hvc : ∀ o, w.cell? ⟨g, o, none⟩ = (vc p q)[o]?) (hh : Hid (hearB p q 6 i h = false)) (hm : Hid (mayC 6 i h = true)) (h0 : (h == 0) = false) (hcmp : Hid (cmpC i h (p 6) (q 6) = r)) (hr : decide (r ≤ 0) = true) :
    Calls Try.prog 33 #[.pointer (some ⟨g, 0, none⟩), .agg #[.int .i64 6, .int .i64 i, .int .i64 h]] w (Heard w g p q 6 i h) := by
  go_enter Try.func33, Try.ntmps33
  go_upto_region 1 with fail
  refine wp_draws _ (Below.refl _ _) (by kernel_rfl) (by kernel_rfl) (fun hne hN => ?_)
  repeat (go_big_quiet_step (first | (go_at_call 46; with_reducible exact After.calls (may1 hm.out _)) | (go_at_call 32; with_reducible exact After.calls (compare1 hcmp.out _))))
  refine wpQuiet_nil (after_cells ?_)
  intro w2 hb2 hc2
  go_wp2_with fail
  go_ret
  exact heard_no hv.out ((Below.refl _ _).alloc (Nat.le_refl _) _ |>.trans (hb2.mono (by simp))) hh.out

set_option maxHeartbeats 2000000 in
theorem hear_yes6 (p q : Nat → Int) (g : Nat) (i h r : Int) (w : World) (hv : Hid (Vw w g p q)) (hg : g < w.heap.size) (hvc : ∀ o, w.cell? ⟨g, o, none⟩ = (vc p q)[o]?) (hf : ∀ o, w.frozen? ⟨g, o, none⟩ = false) (hh : Hid (hearB p q 6 i h = true)) (hm : Hid (mayC 6 i h = true)) (h0 : (h == 0) = false) (hcmp : Hid (cmpC i h (p 6) (q 6) = r)) (hr : decide (r ≤ 0) = false) :
    Calls Try.prog 33 #[.pointer (some ⟨g, 0, none⟩), .agg #[.int .i64 6, .int .i64 i, .int .i64 h]] w (Heard w g p q 6 i h) := by
  go_enter Try.func33, Try.ntmps33
  go_upto_region 1 with fail
  refine wp_draws _ (Below.refl _ _) (by kernel_rfl) (by kernel_rfl) (fun hne hN => ?_)
  repeat (go_big_quiet_step (first | (go_at_call 46; with_reducible exact After.calls (may1 hm.out _)) | (go_at_call 32; with_reducible exact After.calls (compare1 hcmp.out _))))
  refine wpQuiet_nil (after_cells ?_)
  intro w2 hb2 hc2
  have hf2 : ∀ o, w2.frozen? ⟨g, o, none⟩ = false := fun o => by rw [hb2.frozen (p := ⟨g, o, none⟩) (by simp; omega), World.frozen?_of_block (w := w) (a := ⟨g, o, none⟩) (Below.heap_alloc _ _ _ hg)]; exact hf o
  have hz : w.heap.size < w2.heap.size := by have := hb2.size; simp at this; omega
  go_wp2_with fail
  go_region
  go_wp2_with fail
  go_ret
  exact heard_yes (k := 6) (w2 := w2.drew) hv.out ((Below.refl _ _).alloc (Nat.le_refl _) _ |>.trans (hb2.mono (by simp))).drew rfl hh.out rfl

set_option maxHeartbeats 2000000 in
theorem hear_no7 (p q : Nat → Int) (g : Nat) ( i h r : Int) (w : World) (hv : Hid (Vw w g p q)) (hg : g < w.heap.size) (hvc : ∀ o, w.cell? ⟨g, o, none⟩ = (vc p q)[o]?) (hh : Hid (hearB p q 7 i h = false)) (hm : Hid (mayC 7 i h = true)) (h0 : (h == 0) = false) (hcmp : Hid (cmpC i h (p 7) (q 7) = r)) (hr : decide (r ≤ 0) = true) :
    Calls Try.prog 33 #[.pointer (some ⟨g, 0, none⟩), .agg #[.int .i64 7, .int .i64 i, .int .i64 h]] w (Heard w g p q 7 i h) := by
  go_enter Try.func33, Try.ntmps33
  go_upto_region 1 with fail
  refine wp_draws _ (Below.refl _ _) (by kernel_rfl) (by kernel_rfl) (fun hne hN => ?_)
  repeat (go_big_quiet_step (first | (go_at_call 46; with_reducible exact After.calls (may1 hm.out _)) | (go_at_call 32; with_reducible exact After.calls (compare1 hcmp.out _))))
  refine wpQuiet_nil (after_cells ?_)
  intro w2 hb2 hc2
  go_wp2_with fail
  go_ret
  exact heard_no hv.out ((Below.refl _ _).alloc (Nat.le_refl _) _ |>.trans (hb2.mono (by simp))) hh.out

set_option maxHeartbeats 2000000 in
theorem hear_yes7 (p q : Nat → Int) (g : Nat) (i h r : Int) (w : World) (hv : Hid (Vw w g p q)) (hg : g < w.heap.size) (hvc : ∀ o, w.cell? ⟨g, o, none⟩ = (vc p q)[o]?) (hf : ∀ o, w.frozen? ⟨g, o, none⟩ = false) (hh : Hid (hearB p q 7 i h = true)) (hm : Hid (mayC 7 i h = true)) (h0 : (h == 0) = false) (hcmp : Hid (cmpC i h (p 7) (q 7) = r)) (hr : decide (r ≤ 0) = false) :
    Calls Try.prog 33 #[.pointer (some ⟨g, 0, none⟩), .agg #[.int .i64 7, .int .i64 i, .int .i64 h]] w (Heard w g p q 7 i h) := by
  go_enter Try.func33, Try.ntmps33
  go_upto_region 1 with fail
  refine wp_draws _ (Below.refl _ _) (by kernel_rfl) (by kernel_rfl) (fun hne hN => ?_)
  repeat (go_big_quiet_step (first | (go_at_call 46; with_reducible exact After.calls (may1 hm.out _)) | (go_at_call 32; with_reducible exact After.calls (compare1 hcmp.out _))))
  refine wpQuiet_nil (after_cells ?_)
  intro w2 hb2 hc2
  have hf2 : ∀ o, w2.frozen? ⟨g, o, none⟩ = false := fun o => by rw [hb2.frozen (p := ⟨g, o, none⟩) (by simp; omega), World.frozen?_of_block (w := w) (a := ⟨g, o, none⟩) (Below.heap_alloc _ _ _ hg)]; exact hf o
  have hz : w.heap.size < w2.heap.size := by have := hb2.size; simp at this; omega
  go_wp2_with fail
  go_region
  go_wp2_with fail
  go_ret
  exact heard_yes (k := 7) (w2 := w2.drew) hv.out ((Below.refl _ _).alloc (Nat.le_refl _) _ |>.trans (hb2.mono (by simp))).drew rfl hh.out rfl

end Go.Proofs.Ythobimdnjggkfaa.Bel
