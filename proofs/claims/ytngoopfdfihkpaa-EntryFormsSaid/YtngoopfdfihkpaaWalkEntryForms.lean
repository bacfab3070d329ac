/- The walk of the law EntryForms: each of its comparisons says yes. No condition. -/
import Derived.Test.YtngoopfdfihkpaaFormsC
import Derived.Test.YtngoopfdfihkpaaKit
import Derived.Test.YtngoopfdfihkpaaReads
namespace Go.Proofs.Ytngoopfdfihkpaa.WEntryForms
open Go.RowKit Kit PEntryForms
set_option maxHeartbeats 400000 in
theorem law (a0 a1 b0 b1 t : Int) (w : World) :
    Calls Try.prog 7 #[.agg #[.int .i64 a0, .int .i64 a1], .agg #[.int .i64 b0, .int .i64 b1], .int .i64 t] w fun e w' => e = .returned (.bool true) ∧ Below w.heap.size w w' := by
  go_enter Try.func7, Try.ntmps7
  go_wp2_with fail
  refine (flip_c a0 a1 t _).mono ?_
  rintro e w1 ⟨rfl, hb1⟩
  obtain ⟨hc1, hf1⟩ := bcell hb1
  have hz0 : w.heap.size < w1.heap.size := by have := hb1.size; simp at this; omega
  have hz1 : w.heap.size + 1 < w1.heap.size := by have := hb1.size; simp at this; omega
  go_wp2_with fail
  refine (rflip_c a0 a1 t _).mono ?_
  rintro e w2 ⟨rfl, hb2⟩
  obtain ⟨hc2, hf2⟩ := bcell hb2
  have hz20 : w.heap.size < w2.heap.size := by have := hb2.size; simp at this; omega
  have hz21 : w.heap.size + 1 < w2.heap.size := by have := hb2.size; simp at this; omega
  have hz2 : w1.heap.size < w2.heap.size := by have := hb2.size; simp at this; omega
  go_wp2_with fail
  refine wp_region_after (by kernel_rfl) (by kernel_rfl) (fun hne => ?_)
  have hN := @After.cell (w2.alloc (Obj.cells #[Value.int IntKind.i64 (flE a0 a1 t).fst, Value.int IntKind.i64 (flE a0 a1 t).snd.fst] 35))
  repeat (go_big_quiet_step (first | (go_at_call 18; exact After.calls (may_c a0 a1 _)) | (go_at_call 22; exact After.calls (rmay_c a0 a1 _)) | (go_at_call 23; exact After.calls (compare_c a0 a1 b0 b1 _)) | (go_at_call 24; exact After.calls (rcompare_c a0 a1 b0 b1 _)) | (go_at_call 25; exact After.calls (join_c a0 a1 b0 b1 _)) | (go_at_call 26; exact After.calls (rjoin_c a0 a1 b0 b1 _)) | (go_at_call 19; exact After.calls (awake_c _))))
  refine wpQuiet_nil ?_
  rintro _ ⟨nq, rfl⟩
  have hq := nq.h
  go_wp2
  go_ret
  refine ⟨rfl, ?_⟩
  have h0 : Below w.heap.size w w1 := (((Below.refl _ _).alloc (Nat.le_refl _) _).alloc (by simp) _).trans (hb1.mono (by simp; omega))
  have h1 : Below w.heap.size w w2 := (h0.alloc h0.size _).trans (hb2.mono (by simp; omega))
  exact (h1.alloc h1.size _).trans (hq.mono (by simp; omega))
def shE : Sh := .pair (.int .i64) (.pair (.int .i64) .unit)
def sh0 : Sh := shE
def sh1 : Sh := shE
theorem walk (w : World) (a : Array Value) (ha : RD w sh0 a.toList) (b : Array Value) (hb : RD w sh1 b.toList) (t : Int) (_ht : (Lit.int .i64 t).wf = true) :
    Calls Try.prog 7 #[.agg a, .agg b, .int .i64 t] w fun e w' => e = .returned (.bool true) ∧ Below w.heap.size w w' := by
  obtain ⟨a0, a1, rfl, _, _⟩ := rd_two ha
  obtain ⟨b0, b1, rfl, _, _⟩ := rd_two hb
  exact law a0 a1 b0 b1 t w
end Go.Proofs.Ytngoopfdfihkpaa.WEntryForms
