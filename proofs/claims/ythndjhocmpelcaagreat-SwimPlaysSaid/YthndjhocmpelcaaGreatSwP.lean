/- Chapter 6: what a message is answered with. Conditions: the detector's parts lie in blocks apart. -/
import Derived.Test.YthndjhocmpelcaaGreatGi
namespace Go.Proofs.YthndjhocmpelcaaGreat.Swi
open Go.RowKit Kit Hth Tri3
set_option linter.unusedVariables false
set_option maxRecDepth 100000 in
set_option maxHeartbeats 8000000 in
/-- An ack of another one's. -/
theorem ans_on (w : World) (S : Nat → Prop) (g : Nat) (d : Dt) (cs : Array Value) (k f t s fo ab : Int) (cl : Value) (hD : Hid (Det w S g d)) (hc : Hid (MsgC cs k f t s fo ab cl)) (hk : k = 2) (hf : fo ≠ d.self) (b : Bool) (hb : Hid (b = nodeB fo)) :
    Calls Tryz.prog 43 #[.pointer (some ⟨g, 0, none⟩), .agg cs] w fun e w' => e = .returned (.agg (if b then am 2 fo s fo else am 0 0 0 0)) ∧ Below w.heap.size w w' := by
  have al1 := (Below.refl w.heap.size w).alloc (Nat.le_refl _) (.cells cs 46)
  have al2 : Below w.heap.size w ((w.alloc (.cells cs 46)).alloc (.cells zmsg 46)) := al1.alloc al1.size _
  have B1 := Hid.mk_ al2
  have M1 : Hid (((w.alloc (.cells cs 46)).alloc (.cells zmsg 46)).heap[w.heap.size]? = some (.cells cs 46 (0, 0))) := Hid.mk_ ((((Below.refl _ _).alloc (Nat.le_refl _) _).block w.heap.size (by simp)).trans (heap_alloc_new w _))
  have Z1 : Hid (((w.alloc (.cells cs 46)).alloc (.cells zmsg 46)).heap[w.heap.size + 1]? = some (.cells zmsg 46 (0, 0))) := Hid.mk_ (by
    have := heap_alloc_new (w.alloc (.cells cs 46)) (.cells zmsg 46)
    rw [show (w.alloc (.cells cs 46)).heap.size = w.heap.size + 1 by simp] at this
    exact this)
  have D1 := Hid.mk_ (hD.out.below al2)
  have NS := Hid.mk_ hD.out.blk
  clear al1 al2
  go_enter Tryz.func43, Tryz.ntmps43
  go_upto_block 0 with fail
  generalize (w.alloc (.cells cs 46)).alloc (.cells zmsg 46) = w1 at *
  obtain ⟨z, hz⟩ : ∃ z, z = w.heap.size := ⟨_, rfl⟩
  have HZ := Hid.mk_ hz
  have NZ : Hid (∀ i, S i → i < z) := Hid.mk_ (fun i hi => by have := NS.out i hi; omega)
  rw [← hz] at M1 Z1 ⊢
  clear hz NS
  have m0 : w1.cell? ⟨z, 0, none⟩ = some (.int .i64 k) := by rw [cell_of_row w1 z 0 cs 46 (0, 0) M1.out]; exact hc.out.c0
  have m1 : w1.cell? ⟨z, 1, none⟩ = some (.int .i64 f) := by rw [cell_of_row w1 z 1 cs 46 (0, 0) M1.out]; exact hc.out.c1
  have m3 : w1.cell? ⟨z, 3, none⟩ = some (.int .i64 s) := by rw [cell_of_row w1 z 3 cs 46 (0, 0) M1.out]; exact hc.out.c3
  have m4 : w1.cell? ⟨z, 4, none⟩ = some (.int .i64 fo) := by rw [cell_of_row w1 z 4 cs 46 (0, 0) M1.out]; exact hc.out.c4
  have m5 : w1.cell? ⟨z, 5, none⟩ = some (.int .i64 ab) := by rw [cell_of_row w1 z 5 cs 46 (0, 0) M1.out]; exact hc.out.c5
  subst hk
  have hfb : (fo == d.self) = false := by simp [hf]
  clear hf
  obtain ⟨gv, gq, go, gc, A, B, n, cc, C, X⟩ := D1.out
  have c0 : w1.cell? ⟨g, 0, none⟩ = some (.int .i64 d.self) := X.dcs.cell 0
  have lt1 := X.dcs.lt
  have lt2 := World.block_lt_of_cell? w1 _ m0
  clear X
  go_upto_region 3 with fail
  refine wp_draws _ (Below.refl _ _) (by kernel_rfl) (by kernel_rfl) (fun hne hN => ?_)
  repeat (go_big_quiet_step (fail))
  refine wpQuiet_nil (after_cells ?_)
  intro w2 b2 hc2
  replace m0 := keepC b2 m0
  replace m1 := keepC b2 m1
  replace m3 := keepC b2 m3
  replace m4 := keepC b2 m4
  replace m5 := keepC b2 m5
  have Z2 : Hid (w2.heap[z + 1]? = some (.cells zmsg 46 (0, 0))) := Hid.mk_ ((b2.block (z + 1) (Array.getElem?_eq_some_iff.1 Z1.out).1).trans Z1.out)
  have B2 := Hid.mk_ (B1.out.trans (b2.mono B1.out.size))
  clear Z1 B1 M1 D1 c0 lt1 lt2 hne hN hc2 b2
  cases b with
  | true =>
    have one : Hid ((am 2 fo s fo).all (·.oneCell') = true) := Hid.mk_ (msg_one rfl)
    go_wp2_with (first | (go_at_call 25; refine (node24 fo _ true hb).mono ?_; rintro e w3 ⟨rfl, e3⟩; have e4 := e3.symm; subst e4) | (refine wpList_store_row rfl 46 _ _ rfl (z + 1) (am 2 fo s fo) rfl rfl 46 _ Z2.out size42 rfl one.out ?_))
    (try simp only [Exit.inBlock, Exit.then])
    refine bodyPost_ret (v := .agg (am 2 fo s fo)) (results_cell_row rfl _ _ (z + 1) 46 (am 2 fo s fo) (0, 0) _ rfl (ret_row _ Z2.out) Tryz.underlying46 rfl size42) rfl ⟨rfl, ?_⟩
    exact B2.out.trans ((wr_row w2 (z + 1) _).below B2.out.size (fun i hi => by have := HZ.out; omega))
  | false =>
    have lt2 := World.block_lt_of_cell? w2 _ m0
    go_upto_region 10 with (go_at_call 25; refine (node24 fo _ false hb).mono ?_; rintro e w3 ⟨rfl, e3⟩; have e4 := e3.symm; subst e4)
    refine wp_draws _ (Below.refl _ _) (by kernel_rfl) (by kernel_rfl) (fun hne hN => ?_)
    repeat (go_big_quiet_step (fail))
    refine wpQuiet_nil (after_cells ?_)
    intro w4 b4 hc4
    have Z4 : Hid (w4.heap[z + 1]? = some (.cells zmsg 46 (0, 0))) := Hid.mk_ ((b4.block (z + 1) (Array.getElem?_eq_some_iff.1 Z2.out).1).trans Z2.out)
    have B4 := Hid.mk_ (B2.out.trans (b4.mono B2.out.size))
    have one : Hid ((am 0 0 0 0).all (·.oneCell') = true) := Hid.mk_ (msg_one rfl)
    go_wp2_with (refine wpList_store_row rfl 46 _ _ rfl (z + 1) (am 0 0 0 0) rfl rfl 46 _ Z4.out size42 rfl one.out ?_)
    (try simp only [Exit.inBlock, Exit.then])
    refine bodyPost_ret (v := .agg (am 0 0 0 0)) (results_cell_row rfl _ _ (z + 1) 46 (am 0 0 0 0) (0, 0) _ rfl (ret_row _ Z4.out) Tryz.underlying46 rfl size42) rfl ⟨rfl, ?_⟩
    exact B4.out.trans ((wr_row w4 (z + 1) _).below B4.out.size (fun i hi => by have := HZ.out; omega))
end Go.Proofs.YthndjhocmpelcaaGreat.Swi
