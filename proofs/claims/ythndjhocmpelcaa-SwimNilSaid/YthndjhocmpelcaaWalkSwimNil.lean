/- SwimNil: the walk of the law: a detector that there isn't. No condition. -/
import Derived.Test.YthndjhocmpelcaaGl
namespace Go.Proofs.Ythndjhocmpelcaa.WSwimNil
open Go.RowKit Kit Tri3 Swi
set_option linter.unusedVariables false
@[reducible] def sh0 : Sh := shCall
set_option maxRecDepth 100000 in
set_option maxHeartbeats 8000000 in
theorem law (w : World) (a : Array Value) (q : Qc) (hq : Hid (CallL w a.toList q)) : Calls Try.prog 8 #[.agg a] w fun e w' => e = .returned (.bool true) ∧ Below w.heap.size w w' := by
  have al := Hid.mk_ ((Below.refl w.heap.size w).alloc (Nat.le_refl _) (.cells a 58))
  have M1 : Hid ((w.alloc (.cells a 58)).heap[w.heap.size]? = some (.cells a 58 (0, 0))) := Hid.mk_ (heap_alloc_new w _)
  go_enter Try.func8, Try.ntmps8
  go_upto_region 2 with fail
  generalize w.alloc (.cells a 58) = w1 at *
  obtain ⟨z, hz⟩ : ∃ z, z = w.heap.size := ⟨_, rfl⟩
  rw [← hz] at M1 ⊢
  clear hz
  have x66 : w1.cell? ⟨z, 66, none⟩ = some (.slice q.Ap q.np q.cp) := rowc M1.out hq.out.e66
  have x67 : w1.cell? ⟨z, 67, none⟩ = some (.int .u64 q.dr) := rowc M1.out hq.out.e67
  have he := eql48_self 0 0 0
  go_wp2_with (first
    | (go_at_call 13; refine (tick_nil w1 _ _).mono ?_; rintro e w2 ⟨rfl, b2⟩; have M2 := Hid.mk_ (rowk M1.out b2))
    | (refine wpList_load_midG 42 _ rfl z 4 rfl (by rfl) _ _ (row_msg M2.out) Try.underlying42 rfl (range_len hq.out.len) ?_)
    | (go_at_call 10; refine (handle_nil w2 _).mono ?_; rintro e w3 ⟨rfl, b3⟩; have M3 := Hid.mk_ (rowk M2.out b3); have y1 : w3.cell? ⟨z, 1, none⟩ = some (.int .i64 q.c.n) := rowc M3.out hq.out.e1; have y2 : w3.cell? ⟨z, 2, none⟩ = some (.int .i64 q.c.i) := rowc M3.out hq.out.e2; have y3 : w3.cell? ⟨z, 3, none⟩ = some (.int .i64 q.c.h) := rowc M3.out hq.out.e3)
    | (go_at_call 12; refine (hear_bad w3 none q.c (.inr (.inr rfl))).mono ?_; rintro e w4 ⟨rfl, b4⟩)
    | (go_at_call 17; refine (leave_nil w4).mono ?_; rintro e w5 ⟨rfl, b5⟩; have z1 := keepC (b4.trans (b5.mono b4.size)) y1)
    | (go_at_call 14; refine (of_nil w5 q.c.n).mono ?_; rintro e w6 ⟨rfl, b6⟩)
    | (go_at_call 21; refine (all_nil w6).mono ?_; rintro e w7 ⟨rfl, rfl⟩)
    | (go_at_call 15; refine (inc_nil _).mono ?_; rintro e w7 ⟨rfl, rfl⟩)
    | (go_at_call 18; refine (now_nil _).mono ?_; rintro e w7 ⟨rfl, rfl⟩)
    | (go_at_call 22; refine (over_nil _).mono ?_; rintro e w7 ⟨rfl, rfl⟩)
    | (go_at_call 11; refine (awake _).mono ?_; rintro e w8 ⟨rfl, b8⟩))
  go_ret
  have c1 := al.out
  have c2 := c1.trans (b2.mono c1.size)
  have c3 := c2.trans (b3.mono c2.size)
  have c4 := c3.trans (b4.mono c3.size)
  have c5 := c4.trans (b5.mono c4.size)
  have c6 := c5.trans (b6.mono c5.size)
  exact ⟨rfl, c6.trans (b8.mono c6.size)⟩
theorem walk (w : World) (a : Array Value) (ha : RD w sh0 a.toList) : Calls Try.prog 8 #[.agg a] w fun e w' => e = .returned (.bool true) ∧ Below w.heap.size w w' := by
  obtain ⟨q, hq⟩ := rd_call ha
  exact law w a q (Hid.mk_ hq)
end Go.Proofs.Ythndjhocmpelcaa.WSwimNil
