/- Chapter 6: what a message is answered with. Conditions: the detector's parts lie in blocks apart. -/
import Derived.Test.YthndjhocmpelcaaGreatSwQ
namespace Go.Proofs.YthndjhocmpelcaaGreat.Swi
open Go.RowKit Kit Hth Tri3
set_option linter.unusedVariables false
theorem node24b (x : Int) (w : World) (b : Bool) (hb : Hid (b = nodeB x)) : Calls Tryz.prog 25 #[.int .i64 x] w fun e w' => e = .returned (.bool b) ∧ Below w.heap.size w w' := by
  refine (node24 x w b hb).mono ?_
  rintro e w3 ⟨rfl, e3⟩
  exact ⟨rfl, by rw [e3]; exact Below.refl _ _⟩
set_option maxRecDepth 100000 in
set_option maxHeartbeats 8000000 in
/-- A request that goes on. -/
theorem ans_req (w : World) (S : Nat → Prop) (g : Nat) (d : Dt) (cs : Array Value) (k f t s fo ab : Int) (cl : Value) (hD : Hid (Det w S g d)) (hc : Hid (MsgC cs k f t s fo ab cl)) (hk : k = 3) (hb : Hid (true = nodeB ab)) (ha : ¬ ab = d.self) :
    Calls Tryz.prog 43 #[.pointer (some ⟨g, 0, none⟩), .agg cs] w fun e w' => e = .returned (.agg (am 1 ab s f)) ∧ Below w.heap.size w w' := by
  have al1 := (Below.refl w.heap.size w).alloc (Nat.le_refl _) (.cells cs 46)
  have al2 : Below w.heap.size w ((w.alloc (.cells cs 46)).alloc (.cells zmsg 46)) := al1.alloc al1.size _
  have B1 := Hid.mk_ al2
  have M1 : Hid (((w.alloc (.cells cs 46)).alloc (.cells zmsg 46)).heap[w.heap.size]? = some (.cells cs 46 (0, 0))) := Hid.mk_ ((((Below.refl _ _).alloc (Nat.le_refl _) _).block w.heap.size (by simp)).trans (heap_alloc_new w _))
  have Z1 : Hid (((w.alloc (.cells cs 46)).alloc (.cells zmsg 46)).heap[w.heap.size + 1]? = some (.cells zmsg 46 (0, 0))) := Hid.mk_ (by
    have := heap_alloc_new (w.alloc (.cells cs 46)) (.cells zmsg 46)
    rw [show (w.alloc (.cells cs 46)).heap.size = w.heap.size + 1 by simp] at this
    exact this)
  have D1 := Hid.mk_ (hD.out.below al2)
  have NS := Hid.mk_ hD.out.blk
  clear al1 al2
  go_enter Tryz.func43, Tryz.ntmps43
  go_upto_block 0 with fail
  generalize (w.alloc (.cells cs 46)).alloc (.cells zmsg 46) = w1 at *
  obtain ⟨z, hz⟩ : ∃ z, z = w.heap.size := ⟨_, rfl⟩
  have HZ := Hid.mk_ hz
  have NZ : Hid (∀ i, S i → i < z) := Hid.mk_ (fun i hi => by have := NS.out i hi; omega)
  rw [← hz] at M1 Z1 ⊢
  clear hz NS
  have m0 : w1.cell? ⟨z, 0, none⟩ = some (.int .i64 k) := by rw [cell_of_row w1 z 0 cs 46 (0, 0) M1.out]; exact hc.out.c0
  have m1 : w1.cell? ⟨z, 1, none⟩ = some (.int .i64 f) := by rw [cell_of_row w1 z 1 cs 46 (0, 0) M1.out]; exact hc.out.c1
  have m3 : w1.cell? ⟨z, 3, none⟩ = some (.int .i64 s) := by rw [cell_of_row w1 z 3 cs 46 (0, 0) M1.out]; exact hc.out.c3
  have m4 : w1.cell? ⟨z, 4, none⟩ = some (.int .i64 fo) := by rw [cell_of_row w1 z 4 cs 46 (0, 0) M1.out]; exact hc.out.c4
  have m5 : w1.cell? ⟨z, 5, none⟩ = some (.int .i64 ab) := by rw [cell_of_row w1 z 5 cs 46 (0, 0) M1.out]; exact hc.out.c5
  subst hk
  have hab : (ab != d.self) = true := by simp [ha]
  clear ha
  obtain ⟨gv, gq, go, gc, A, B, n, cc, C, X⟩ := D1.out
  have XH := Hid.mk_ X
  have lt2 := World.block_lt_of_cell? w1 _ m0
  clear X
  go_upto_region 3 with fail
  refine wp_draws _ (Below.refl _ _) (by kernel_rfl) (by kernel_rfl) (fun hne hN => ?_)
  repeat (go_big_quiet_step (fail))
  refine wpQuiet_nil (after_cells ?_)
  intro w2 b2 hc2
  have X2 := Hid.mk_ (XH.out.below b2)
  replace m0 := keepC b2 m0
  replace m1 := keepC b2 m1
  replace m3 := keepC b2 m3
  replace m5 := keepC b2 m5
  have Z2 : Hid (w2.heap[z + 1]? = some (.cells zmsg 46 (0, 0))) := Hid.mk_ ((b2.block (z + 1) (Array.getElem?_eq_some_iff.1 Z1.out).1).trans Z1.out)
  have B2 := Hid.mk_ (B1.out.trans (b2.mono B1.out.size))
  clear m4 Z1 B1 M1 D1 lt2 hne hN hc2 b2 XH
  have c0 : w2.cell? ⟨g, 0, none⟩ = some (.int .i64 d.self) := X2.out.dcs.cell 0
  have lt1 := X2.out.dcs.lt
  have lt2 := World.block_lt_of_cell? w2 _ m0
  go_upto_region 10 with fail
  refine wp_draws _ (Below.refl _ _) (by kernel_rfl) (by kernel_rfl) (fun hne hN => ?_)
  repeat (go_big_quiet_step (first | (go_at_call 25; with_reducible exact After.calls (node24b ab _ true hb)) | fail))
  refine wpQuiet_nil (after_cells ?_)
  intro w4 b4 hc4
  have Z4 : Hid (w4.heap[z + 1]? = some (.cells zmsg 46 (0, 0))) := Hid.mk_ ((b4.block (z + 1) (Array.getElem?_eq_some_iff.1 Z2.out).1).trans Z2.out)
  have B4 := Hid.mk_ (B2.out.trans (b4.mono B2.out.size))
  replace m1 := keepC b4 m1
  replace m3 := keepC b4 m3
  replace m5 := keepC b4 m5
  clear hne hN hc4 lt1 lt2 c0 m0
  have one : Hid ((am 1 ab s f).all (·.oneCell') = true) := Hid.mk_ (msg_one rfl)
  go_wp2_with (refine wpList_store_row rfl 46 _ _ rfl (z + 1) (am 1 ab s f) rfl rfl 46 _ Z4.out size42 rfl one.out ?_)
  (try simp only [Exit.inBlock, Exit.then])
  refine bodyPost_ret (v := .agg (am 1 ab s f)) (results_cell_row rfl _ _ (z + 1) 46 (am 1 ab s f) (0, 0) _ rfl (ret_row _ Z4.out) Tryz.underlying46 rfl size42) rfl ⟨rfl, ?_⟩
  exact B4.out.trans ((wr_row w4 (z + 1) _).below B4.out.size (fun i hi => by have := HZ.out; omega))
set_option maxRecDepth 100000 in
set_option maxHeartbeats 8000000 in
/-- A request for nobody. -/
theorem ans_req1 (w : World) (S : Nat → Prop) (g : Nat) (d : Dt) (cs : Array Value) (k f t s fo ab : Int) (cl : Value) (hD : Hid (Det w S g d)) (hc : Hid (MsgC cs k f t s fo ab cl)) (hk : k = 3) (hb : Hid (false = nodeB ab)) :
    Calls Tryz.prog 43 #[.pointer (some ⟨g, 0, none⟩), .agg cs] w fun e w' => e = .returned (.agg (am 0 0 0 0)) ∧ Below w.heap.size w w' := by
  have al1 := (Below.refl w.heap.size w).alloc (Nat.le_refl _) (.cells cs 46)
  have al2 : Below w.heap.size w ((w.alloc (.cells cs 46)).alloc (.cells zmsg 46)) := al1.alloc al1.size _
  have B1 := Hid.mk_ al2
  have M1 : Hid (((w.alloc (.cells cs 46)).alloc (.cells zmsg 46)).heap[w.heap.size]? = some (.cells cs 46 (0, 0))) := Hid.mk_ ((((Below.refl _ _).alloc (Nat.le_refl _) _).block w.heap.size (by simp)).trans (heap_alloc_new w _))
  have Z1 : Hid (((w.alloc (.cells cs 46)).alloc (.cells zmsg 46)).heap[w.heap.size + 1]? = some (.cells zmsg 46 (0, 0))) := Hid.mk_ (by
    have := heap_alloc_new (w.alloc (.cells cs 46)) (.cells zmsg 46)
    rw [show (w.alloc (.cells cs 46)).heap.size = w.heap.size + 1 by simp] at this
    exact this)
  have D1 := Hid.mk_ (hD.out.below al2)
  have NS := Hid.mk_ hD.out.blk
  clear al1 al2
  go_enter Tryz.func43, Tryz.ntmps43
  go_upto_block 0 with fail
  generalize (w.alloc (.cells cs 46)).alloc (.cells zmsg 46) = w1 at *
  obtain ⟨z, hz⟩ : ∃ z, z = w.heap.size := ⟨_, rfl⟩
  have HZ := Hid.mk_ hz
  have NZ : Hid (∀ i, S i → i < z) := Hid.mk_ (fun i hi => by have := NS.out i hi; omega)
  rw [← hz] at M1 Z1 ⊢
  clear hz NS
  have m0 : w1.cell? ⟨z, 0, none⟩ = some (.int .i64 k) := by rw [cell_of_row w1 z 0 cs 46 (0, 0) M1.out]; exact hc.out.c0
  have m1 : w1.cell? ⟨z, 1, none⟩ = some (.int .i64 f) := by rw [cell_of_row w1 z 1 cs 46 (0, 0) M1.out]; exact hc.out.c1
  have m3 : w1.cell? ⟨z, 3, none⟩ = some (.int .i64 s) := by rw [cell_of_row w1 z 3 cs 46 (0, 0) M1.out]; exact hc.out.c3
  have m4 : w1.cell? ⟨z, 4, none⟩ = some (.int .i64 fo) := by rw [cell_of_row w1 z 4 cs 46 (0, 0) M1.out]; exact hc.out.c4
  have m5 : w1.cell? ⟨z, 5, none⟩ = some (.int .i64 ab) := by rw [cell_of_row w1 z 5 cs 46 (0, 0) M1.out]; exact hc.out.c5
  subst hk
  obtain ⟨gv, gq, go, gc, A, B, n, cc, C, X⟩ := D1.out
  have XH := Hid.mk_ X
  have lt2 := World.block_lt_of_cell? w1 _ m0
  clear X
  go_upto_region 3 with fail
  refine wp_draws _ (Below.refl _ _) (by kernel_rfl) (by kernel_rfl) (fun hne hN => ?_)
  repeat (go_big_quiet_step (fail))
  refine wpQuiet_nil (after_cells ?_)
  intro w2 b2 hc2
  have X2 := Hid.mk_ (XH.out.below b2)
  replace m0 := keepC b2 m0
  replace m1 := keepC b2 m1
  replace m3 := keepC b2 m3
  replace m5 := keepC b2 m5
  have Z2 : Hid (w2.heap[z + 1]? = some (.cells zmsg 46 (0, 0))) := Hid.mk_ ((b2.block (z + 1) (Array.getElem?_eq_some_iff.1 Z1.out).1).trans Z1.out)
  have B2 := Hid.mk_ (B1.out.trans (b2.mono B1.out.size))
  clear m4 Z1 B1 M1 D1 lt2 hne hN hc2 b2 XH
  have c0 : w2.cell? ⟨g, 0, none⟩ = some (.int .i64 d.self) := X2.out.dcs.cell 0
  have lt1 := X2.out.dcs.lt
  have lt2 := World.block_lt_of_cell? w2 _ m0
  go_upto_region 10 with fail
  refine wp_draws _ (Below.refl _ _) (by kernel_rfl) (by kernel_rfl) (fun hne hN => ?_)
  repeat (go_big_quiet_step (first | (go_at_call 25; with_reducible exact After.calls (node24b ab _ false hb)) | fail))
  refine wpQuiet_nil (after_cells ?_)
  intro w4 b4 hc4
  have Z4 : Hid (w4.heap[z + 1]? = some (.cells zmsg 46 (0, 0))) := Hid.mk_ ((b4.block (z + 1) (Array.getElem?_eq_some_iff.1 Z2.out).1).trans Z2.out)
  have B4 := Hid.mk_ (B2.out.trans (b4.mono B2.out.size))
  replace m1 := keepC b4 m1
  replace m3 := keepC b4 m3
  replace m5 := keepC b4 m5
  clear hne hN hc4 lt1 lt2 c0 m0
  have one : Hid ((am 0 0 0 0).all (·.oneCell') = true) := Hid.mk_ (msg_one rfl)
  go_wp2_with (refine wpList_store_row rfl 46 _ _ rfl (z + 1) (am 0 0 0 0) rfl rfl 46 _ Z4.out size42 rfl one.out ?_)
  (try simp only [Exit.inBlock, Exit.then])
  refine bodyPost_ret (v := .agg (am 0 0 0 0)) (results_cell_row rfl _ _ (z + 1) 46 (am 0 0 0 0) (0, 0) _ rfl (ret_row _ Z4.out) Tryz.underlying46 rfl size42) rfl ⟨rfl, ?_⟩
  exact B4.out.trans ((wr_row w4 (z + 1) _).below B4.out.size (fun i hi => by have := HZ.out; omega))
set_option maxRecDepth 100000 in
set_option maxHeartbeats 8000000 in
/-- A request for oneself. -/
theorem ans_req2 (w : World) (S : Nat → Prop) (g : Nat) (d : Dt) (cs : Array Value) (k f t s fo ab : Int) (cl : Value) (hD : Hid (Det w S g d)) (hc : Hid (MsgC cs k f t s fo ab cl)) (hk : k = 3) (hb : Hid (true = nodeB ab)) (ha : ab = d.self) :
    Calls Tryz.prog 43 #[.pointer (some ⟨g, 0, none⟩), .agg cs] w fun e w' => e = .returned (.agg (am 0 0 0 0)) ∧ Below w.heap.size w w' := by
  have al1 := (Below.refl w.heap.size w).alloc (Nat.le_refl _) (.cells cs 46)
  have al2 : Below w.heap.size w ((w.alloc (.cells cs 46)).alloc (.cells zmsg 46)) := al1.alloc al1.size _
  have B1 := Hid.mk_ al2
  have M1 : Hid (((w.alloc (.cells cs 46)).alloc (.cells zmsg 46)).heap[w.heap.size]? = some (.cells cs 46 (0, 0))) := Hid.mk_ ((((Below.refl _ _).alloc (Nat.le_refl _) _).block w.heap.size (by simp)).trans (heap_alloc_new w _))
  have Z1 : Hid (((w.alloc (.cells cs 46)).alloc (.cells zmsg 46)).heap[w.heap.size + 1]? = some (.cells zmsg 46 (0, 0))) := Hid.mk_ (by
    have := heap_alloc_new (w.alloc (.cells cs 46)) (.cells zmsg 46)
    rw [show (w.alloc (.cells cs 46)).heap.size = w.heap.size + 1 by simp] at this
    exact this)
  have D1 := Hid.mk_ (hD.out.below al2)
  have NS := Hid.mk_ hD.out.blk
  clear al1 al2
  go_enter Tryz.func43, Tryz.ntmps43
  go_upto_block 0 with fail
  generalize (w.alloc (.cells cs 46)).alloc (.cells zmsg 46) = w1 at *
  obtain ⟨z, hz⟩ : ∃ z, z = w.heap.size := ⟨_, rfl⟩
  have HZ := Hid.mk_ hz
  have NZ : Hid (∀ i, S i → i < z) := Hid.mk_ (fun i hi => by have := NS.out i hi; omega)
  rw [← hz] at M1 Z1 ⊢
  clear hz NS
  have m0 : w1.cell? ⟨z, 0, none⟩ = some (.int .i64 k) := by rw [cell_of_row w1 z 0 cs 46 (0, 0) M1.out]; exact hc.out.c0
  have m1 : w1.cell? ⟨z, 1, none⟩ = some (.int .i64 f) := by rw [cell_of_row w1 z 1 cs 46 (0, 0) M1.out]; exact hc.out.c1
  have m3 : w1.cell? ⟨z, 3, none⟩ = some (.int .i64 s) := by rw [cell_of_row w1 z 3 cs 46 (0, 0) M1.out]; exact hc.out.c3
  have m4 : w1.cell? ⟨z, 4, none⟩ = some (.int .i64 fo) := by rw [cell_of_row w1 z 4 cs 46 (0, 0) M1.out]; exact hc.out.c4
  have m5 : w1.cell? ⟨z, 5, none⟩ = some (.int .i64 ab) := by rw [cell_of_row w1 z 5 cs 46 (0, 0) M1.out]; exact hc.out.c5
  subst hk
  have hab : (ab != d.self) = false := by simp [ha]
  clear ha
  obtain ⟨gv, gq, go, gc, A, B, n, cc, C, X⟩ := D1.out
  have XH := Hid.mk_ X
  have lt2 := World.block_lt_of_cell? w1 _ m0
  clear X
  go_upto_region 3 with fail
  refine wp_draws _ (Below.refl _ _) (by kernel_rfl) (by kernel_rfl) (fun hne hN => ?_)
  repeat (go_big_quiet_step (fail))
  refine wpQuiet_nil (after_cells ?_)
  intro w2 b2 hc2
  have X2 := Hid.mk_ (XH.out.below b2)
  replace m0 := keepC b2 m0
  replace m1 := keepC b2 m1
  replace m3 := keepC b2 m3
  replace m5 := keepC b2 m5
  have Z2 : Hid (w2.heap[z + 1]? = some (.cells zmsg 46 (0, 0))) := Hid.mk_ ((b2.block (z + 1) (Array.getElem?_eq_some_iff.1 Z1.out).1).trans Z1.out)
  have B2 := Hid.mk_ (B1.out.trans (b2.mono B1.out.size))
  clear m4 Z1 B1 M1 D1 lt2 hne hN hc2 b2 XH
  have c0 : w2.cell? ⟨g, 0, none⟩ = some (.int .i64 d.self) := X2.out.dcs.cell 0
  have lt1 := X2.out.dcs.lt
  have lt2 := World.block_lt_of_cell? w2 _ m0
  go_upto_region 10 with fail
  refine wp_draws _ (Below.refl _ _) (by kernel_rfl) (by kernel_rfl) (fun hne hN => ?_)
  repeat (go_big_quiet_step (first | (go_at_call 25; with_reducible exact After.calls (node24b ab _ true hb)) | fail))
  refine wpQuiet_nil (after_cells ?_)
  intro w4 b4 hc4
  have Z4 : Hid (w4.heap[z + 1]? = some (.cells zmsg 46 (0, 0))) := Hid.mk_ ((b4.block (z + 1) (Array.getElem?_eq_some_iff.1 Z2.out).1).trans Z2.out)
  have B4 := Hid.mk_ (B2.out.trans (b4.mono B2.out.size))
  replace m1 := keepC b4 m1
  replace m3 := keepC b4 m3
  replace m5 := keepC b4 m5
  clear hne hN hc4 lt1 lt2 c0 m0
  have one : Hid ((am 0 0 0 0).all (·.oneCell') = true) := Hid.mk_ (msg_one rfl)
  go_wp2_with (refine wpList_store_row rfl 46 _ _ rfl (z + 1) (am 0 0 0 0) rfl rfl 46 _ Z4.out size42 rfl one.out ?_)
  (try simp only [Exit.inBlock, Exit.then])
  refine bodyPost_ret (v := .agg (am 0 0 0 0)) (results_cell_row rfl _ _ (z + 1) 46 (am 0 0 0 0) (0, 0) _ rfl (ret_row _ Z4.out) Tryz.underlying46 rfl size42) rfl ⟨rfl, ?_⟩
  exact B4.out.trans ((wr_row w4 (z + 1) _).below B4.out.size (fun i hi => by have := HZ.out; omega))
set_option maxRecDepth 100000 in
set_option maxHeartbeats 8000000 in
/-- Another kind. -/
theorem ans_none (w : World) (S : Nat → Prop) (g : Nat) (d : Dt) (cs : Array Value) (k f t s fo ab : Int) (cl : Value) (hD : Hid (Det w S g d)) (hc : Hid (MsgC cs k f t s fo ab cl)) (k1 : ¬ k = 1) (k2 : ¬ k = 2) (k3 : ¬ k = 3) :
    Calls Tryz.prog 43 #[.pointer (some ⟨g, 0, none⟩), .agg cs] w fun e w' => e = .returned (.agg (am 0 0 0 0)) ∧ Below w.heap.size w w' := by
  have al1 := (Below.refl w.heap.size w).alloc (Nat.le_refl _) (.cells cs 46)
  have al2 : Below w.heap.size w ((w.alloc (.cells cs 46)).alloc (.cells zmsg 46)) := al1.alloc al1.size _
  have B1 := Hid.mk_ al2
  have M1 : Hid (((w.alloc (.cells cs 46)).alloc (.cells zmsg 46)).heap[w.heap.size]? = some (.cells cs 46 (0, 0))) := Hid.mk_ ((((Below.refl _ _).alloc (Nat.le_refl _) _).block w.heap.size (by simp)).trans (heap_alloc_new w _))
  have Z1 : Hid (((w.alloc (.cells cs 46)).alloc (.cells zmsg 46)).heap[w.heap.size + 1]? = some (.cells zmsg 46 (0, 0))) := Hid.mk_ (by
    have := heap_alloc_new (w.alloc (.cells cs 46)) (.cells zmsg 46)
    rw [show (w.alloc (.cells cs 46)).heap.size = w.heap.size + 1 by simp] at this
    exact this)
  have D1 := Hid.mk_ (hD.out.below al2)
  have NS := Hid.mk_ hD.out.blk
  clear al1 al2
  go_enter Tryz.func43, Tryz.ntmps43
  go_upto_block 0 with fail
  generalize (w.alloc (.cells cs 46)).alloc (.cells zmsg 46) = w1 at *
  obtain ⟨z, hz⟩ : ∃ z, z = w.heap.size := ⟨_, rfl⟩
  have HZ := Hid.mk_ hz
  have NZ : Hid (∀ i, S i → i < z) := Hid.mk_ (fun i hi => by have := NS.out i hi; omega)
  rw [← hz] at M1 Z1 ⊢
  clear hz NS
  have m0 : w1.cell? ⟨z, 0, none⟩ = some (.int .i64 k) := by rw [cell_of_row w1 z 0 cs 46 (0, 0) M1.out]; exact hc.out.c0
  have m1 : w1.cell? ⟨z, 1, none⟩ = some (.int .i64 f) := by rw [cell_of_row w1 z 1 cs 46 (0, 0) M1.out]; exact hc.out.c1
  have m3 : w1.cell? ⟨z, 3, none⟩ = some (.int .i64 s) := by rw [cell_of_row w1 z 3 cs 46 (0, 0) M1.out]; exact hc.out.c3
  have m4 : w1.cell? ⟨z, 4, none⟩ = some (.int .i64 fo) := by rw [cell_of_row w1 z 4 cs 46 (0, 0) M1.out]; exact hc.out.c4
  have m5 : w1.cell? ⟨z, 5, none⟩ = some (.int .i64 ab) := by rw [cell_of_row w1 z 5 cs 46 (0, 0) M1.out]; exact hc.out.c5
  have kb1 : (k == 1) = false := by simp [k1]
  have kb2 : (k == 2) = false := by simp [k2]
  have kb3 : (k == 3) = false := by simp [k3]
  clear k1 k2 k3
  obtain ⟨gv, gq, go, gc, A, B, n, cc, C, X⟩ := D1.out
  have XH := Hid.mk_ X
  have lt2 := World.block_lt_of_cell? w1 _ m0
  clear X
  go_upto_region 3 with fail
  refine wp_draws _ (Below.refl _ _) (by kernel_rfl) (by kernel_rfl) (fun hne hN => ?_)
  repeat (go_big_quiet_step (fail))
  refine wpQuiet_nil (after_cells ?_)
  intro w2 b2 hc2
  have X2 := Hid.mk_ (XH.out.below b2)
  replace m0 := keepC b2 m0
  replace m1 := keepC b2 m1
  replace m3 := keepC b2 m3
  replace m5 := keepC b2 m5
  have Z2 : Hid (w2.heap[z + 1]? = some (.cells zmsg 46 (0, 0))) := Hid.mk_ ((b2.block (z + 1) (Array.getElem?_eq_some_iff.1 Z1.out).1).trans Z1.out)
  have B2 := Hid.mk_ (B1.out.trans (b2.mono B1.out.size))
  clear m4 Z1 B1 M1 D1 lt2 hne hN hc2 b2 XH
  have c0 : w2.cell? ⟨g, 0, none⟩ = some (.int .i64 d.self) := X2.out.dcs.cell 0
  have lt1 := X2.out.dcs.lt
  have lt2 := World.block_lt_of_cell? w2 _ m0
  go_upto_region 10 with fail
  refine wp_draws _ (Below.refl _ _) (by kernel_rfl) (by kernel_rfl) (fun hne hN => ?_)
  repeat (go_big_quiet_step (fail))
  refine wpQuiet_nil (after_cells ?_)
  intro w4 b4 hc4
  have Z4 : Hid (w4.heap[z + 1]? = some (.cells zmsg 46 (0, 0))) := Hid.mk_ ((b4.block (z + 1) (Array.getElem?_eq_some_iff.1 Z2.out).1).trans Z2.out)
  have B4 := Hid.mk_ (B2.out.trans (b4.mono B2.out.size))
  replace m1 := keepC b4 m1
  replace m3 := keepC b4 m3
  replace m5 := keepC b4 m5
  clear hne hN hc4 lt1 lt2 c0 m0
  have one : Hid ((am 0 0 0 0).all (·.oneCell') = true) := Hid.mk_ (msg_one rfl)
  go_wp2_with (refine wpList_store_row rfl 46 _ _ rfl (z + 1) (am 0 0 0 0) rfl rfl 46 _ Z4.out size42 rfl one.out ?_)
  (try simp only [Exit.inBlock, Exit.then])
  refine bodyPost_ret (v := .agg (am 0 0 0 0)) (results_cell_row rfl _ _ (z + 1) 46 (am 0 0 0 0) (0, 0) _ rfl (ret_row _ Z4.out) Tryz.underlying46 rfl size42) rfl ⟨rfl, ?_⟩
  exact B4.out.trans ((wr_row w4 (z + 1) _).below B4.out.size (fun i hi => by have := HZ.out; omega))
theorem Calls.to {f : Nat} {args : Array Value} {w : World} {S : Nat → Prop} {g : Nat} {d : Dt} {mm mm' : Array Value} (hD : Hid (Det w S g d)) (e : mm = mm')
    (h : Calls Tryz.prog f args w fun e w' => e = .returned (.agg mm) ∧ Below w.heap.size w w') : Calls Tryz.prog f args w fun e w' => e = .returned (.agg mm') ∧ Hid (DTurn w w' S g d) := by
  subst e
  refine h.mono ?_
  rintro e w' ⟨rfl, hb⟩
  exact ⟨rfl, Hid.mk_ (DTurn.of_below hD.out hb)⟩
theorem answers (w : World) (S : Nat → Prop) (g : Nat) (d : Dt) (cs : Array Value) (k f t s fo ab : Int) (cl : Value) (hD : Hid (Det w S g d)) (hc : Hid (MsgC cs k f t s fo ab cl)) (mm : Array Value) (hm : Hid (mm = aMsg d k f s fo ab)) (d' : Dt) (hd : Hid (d' = dAns d k s fo)) :
    Calls Tryz.prog 43 #[.pointer (some ⟨g, 0, none⟩), .agg cs] w fun e w' => e = .returned (.agg mm) ∧ Hid (DTurn w w' S g d') := by
  have em := hm.out
  have ed := hd.out
  unfold dAns at ed
  unfold aMsg at em
  by_cases k1 : k = 1
  · rw [if_pos k1] at em
    rw [if_neg (by omega)] at ed
    subst ed
    exact Calls.to hD em.symm (ans_ping w S g d' cs k f t s fo ab cl hD hc k1)
  rw [if_neg k1] at em
  by_cases k2 : k = 2
  · rw [if_pos k2] at em
    by_cases hf : fo = d.self
    · rw [if_pos hf] at em
      by_cases hs : s = d.seq
      · by_cases ha : d.asked = -1
        · rw [if_neg (fun h => h.2.2.2 ha)] at ed
          subst ed
          exact Calls.to hD em.symm (ans_self_no2 w S g d' cs k f t s fo ab cl hD hc k2 hf hs ha)
        · rw [if_pos ⟨k2, hf, hs, ha⟩] at ed
          rw [em]
          exact ans_self_yes w S g d cs k f t s fo ab cl hD hc k2 hf hs ha d' (Hid.mk_ ed)
      · rw [if_neg (fun h => hs h.2.2.1)] at ed
        subst ed
        exact Calls.to hD em.symm (ans_self_no1 w S g d' cs k f t s fo ab cl hD hc k2 hf hs)
    · rw [if_neg hf] at em
      rw [if_neg (fun h => hf h.2.1)] at ed
      subst ed
      exact Calls.to hD em.symm (ans_on w S g d' cs k f t s fo ab cl hD hc k2 hf _ (Hid.mk_ rfl))
  rw [if_neg k2] at em
  rw [if_neg (fun h => k2 h.1)] at ed
  subst ed
  by_cases k3 : k = 3
  · cases hb : nodeB ab with
    | false =>
      rw [if_neg (by rw [hb]; simp)] at em
      exact Calls.to hD em.symm (ans_req1 w S g d' cs k f t s fo ab cl hD hc k3 (Hid.mk_ hb.symm))
    | true =>
      by_cases ha : ab = d'.self
      · rw [if_neg (fun h => h.2.2 ha)] at em
        exact Calls.to hD em.symm (ans_req2 w S g d' cs k f t s fo ab cl hD hc k3 (Hid.mk_ hb.symm) ha)
      · rw [if_pos ⟨k3, hb, ha⟩] at em
        exact Calls.to hD em.symm (ans_req w S g d' cs k f t s fo ab cl hD hc k3 (Hid.mk_ hb.symm) ha)
  · rw [if_neg (fun h => k3 h.1)] at em
    exact Calls.to hD em.symm (ans_none w S g d' cs k f t s fo ab cl hD hc k1 k2 k3)
end Go.Proofs.YthndjhocmpelcaaGreat.Swi
