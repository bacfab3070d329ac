/- Chapter 6: what a message is answered with. Conditions: the detector's parts lie in blocks apart. -/
import Derived.Test.YthndjhocmpelcaaGreatSwP
namespace Go.Proofs.YthndjhocmpelcaaGreat.Swi
open Go.RowKit Kit Hth Tri3
set_option linter.unusedVariables false
set_option maxRecDepth 100000 in
set_option maxHeartbeats 8000000 in
/-- An ack for oneself: another number. -/
theorem ans_self_no1 (w : World) (S : Nat → Prop) (g : Nat) (d : Dt) (cs : Array Value) (k f t s fo ab : Int) (cl : Value) (hD : Hid (Det w S g d)) (hc : Hid (MsgC cs k f t s fo ab cl)) (hk : k = 2) (hf : fo = d.self) (hs : ¬ s = d.seq) :
    Calls Tryz.prog 43 #[.pointer (some ⟨g, 0, none⟩), .agg cs] w fun e w' => e = .returned (.agg (am 0 0 0 0)) ∧ Below w.heap.size w w' := by
  have al1 := (Below.refl w.heap.size w).alloc (Nat.le_refl _) (.cells cs 46)
  have al2 : Below w.heap.size w ((w.alloc (.cells cs 46)).alloc (.cells zmsg 46)) := al1.alloc al1.size _
  have B1 := Hid.mk_ al2
  have M1 : Hid (((w.alloc (.cells cs 46)).alloc (.cells zmsg 46)).heap[w.heap.size]? = some (.cells cs 46 (0, 0))) := Hid.mk_ ((((Below.refl _ _).alloc (Nat.le_refl _) _).block w.heap.size (by simp)).trans (heap_alloc_new w _))
  have Z1 : Hid (((w.alloc (.cells cs 46)).alloc (.cells zmsg 46)).heap[w.heap.size + 1]? = some (.cells zmsg 46 (0, 0))) := Hid.mk_ (by
    have := heap_alloc_new (w.alloc (.cells cs 46)) (.cells zmsg 46)
    rw [show (w.alloc (.cells cs 46)).heap.size = w.heap.size + 1 by simp] at this
    exact this)
  have D1 := Hid.mk_ (hD.out.below al2)
  have NS := Hid.mk_ hD.out.blk
  clear al1 al2
  go_enter Tryz.func43, Tryz.ntmps43
  go_upto_block 0 with fail
  generalize (w.alloc (.cells cs 46)).alloc (.cells zmsg 46) = w1 at *
  obtain ⟨z, hz⟩ : ∃ z, z = w.heap.size := ⟨_, rfl⟩
  have HZ := Hid.mk_ hz
  have NZ : Hid (∀ i, S i → i < z) := Hid.mk_ (fun i hi => by have := NS.out i hi; omega)
  rw [← hz] at M1 Z1 ⊢
  clear hz NS
  have m0 : w1.cell? ⟨z, 0, none⟩ = some (.int .i64 k) := by rw [cell_of_row w1 z 0 cs 46 (0, 0) M1.out]; exact hc.out.c0
  have m1 : w1.cell? ⟨z, 1, none⟩ = some (.int .i64 f) := by rw [cell_of_row w1 z 1 cs 46 (0, 0) M1.out]; exact hc.out.c1
  have m3 : w1.cell? ⟨z, 3, none⟩ = some (.int .i64 s) := by rw [cell_of_row w1 z 3 cs 46 (0, 0) M1.out]; exact hc.out.c3
  have m4 : w1.cell? ⟨z, 4, none⟩ = some (.int .i64 fo) := by rw [cell_of_row w1 z 4 cs 46 (0, 0) M1.out]; exact hc.out.c4
  have m5 : w1.cell? ⟨z, 5, none⟩ = some (.int .i64 ab) := by rw [cell_of_row w1 z 5 cs 46 (0, 0) M1.out]; exact hc.out.c5
  subst hk
  subst hf
  have hfb : (d.self == d.self) = true := by simp
  obtain ⟨gv, gq, go, gc, A, B, n, cc, C, X⟩ := D1.out
  have XH := Hid.mk_ X
  have c0 : w1.cell? ⟨g, 0, none⟩ = some (.int .i64 d.self) := X.dcs.cell 0
  have lt1 := X.dcs.lt
  have lt2 := World.block_lt_of_cell? w1 _ m0
  clear X
  go_upto_region 3 with fail
  refine wp_draws _ (Below.refl _ _) (by kernel_rfl) (by kernel_rfl) (fun hne hN => ?_)
  repeat (go_big_quiet_step (fail))
  refine wpQuiet_nil (after_cells ?_)
  intro w2 b2 hc2
  have X2 := Hid.mk_ (XH.out.below b2)
  replace m3 := keepC b2 m3
  have Z2 : Hid (w2.heap[z + 1]? = some (.cells zmsg 46 (0, 0))) := Hid.mk_ ((b2.block (z + 1) (Array.getElem?_eq_some_iff.1 Z1.out).1).trans Z1.out)
  have B2 := Hid.mk_ (B1.out.trans (b2.mono B1.out.size))
  clear m0 m1 m4 m5 Z1 B1 M1 D1 c0 lt1 lt2 hne hN hc2 b2 XH
  have c7 : w2.cell? ⟨g, 7, none⟩ = some (.int .i64 d.seq) := X2.out.dcs.cell 7
  have c8 : w2.cell? ⟨g, 8, none⟩ = some (.int .i64 d.asked) := X2.out.dcs.cell 8
  have lt1 := X2.out.dcs.lt
  have lt2 := World.block_lt_of_cell? w2 _ m3
  have hsb : (s == d.seq) = false := by simp [hs]
  go_upto_region 4 with fail
  refine wp_draws _ (Below.refl _ _) (by kernel_rfl) (by kernel_rfl) (fun hne hN => ?_)
  repeat (go_big_quiet_step (fail))
  refine wpQuiet_nil (after_cells ?_)
  intro w4 b4 hc4
  have Z4 : Hid (w4.heap[z + 1]? = some (.cells zmsg 46 (0, 0))) := Hid.mk_ ((b4.block (z + 1) (Array.getElem?_eq_some_iff.1 Z2.out).1).trans Z2.out)
  have B4 := Hid.mk_ (B2.out.trans (b4.mono B2.out.size))
  have one : Hid ((am 0 0 0 0).all (·.oneCell') = true) := Hid.mk_ (msg_one rfl)
  go_wp2_with (refine wpList_store_row rfl 46 _ _ rfl (z + 1) (am 0 0 0 0) rfl rfl 46 _ Z4.out size42 rfl one.out ?_)
  (try simp only [Exit.inBlock, Exit.then])
  refine bodyPost_ret (v := .agg (am 0 0 0 0)) (results_cell_row rfl _ _ (z + 1) 46 (am 0 0 0 0) (0, 0) _ rfl (ret_row _ Z4.out) Tryz.underlying46 rfl size42) rfl ⟨rfl, ?_⟩
  exact B4.out.trans ((wr_row w4 (z + 1) _).below B4.out.size (fun i hi => by have := HZ.out; omega))
set_option maxRecDepth 100000 in
set_option maxHeartbeats 8000000 in
/-- An ack for oneself: nobody is asked. -/
theorem ans_self_no2 (w : World) (S : Nat → Prop) (g : Nat) (d : Dt) (cs : Array Value) (k f t s fo ab : Int) (cl : Value) (hD : Hid (Det w S g d)) (hc : Hid (MsgC cs k f t s fo ab cl)) (hk : k = 2) (hf : fo = d.self) (hs : s = d.seq) (ha : d.asked = -1) :
    Calls Tryz.prog 43 #[.pointer (some ⟨g, 0, none⟩), .agg cs] w fun e w' => e = .returned (.agg (am 0 0 0 0)) ∧ Below w.heap.size w w' := by
  have al1 := (Below.refl w.heap.size w).alloc (Nat.le_refl _) (.cells cs 46)
  have al2 : Below w.heap.size w ((w.alloc (.cells cs 46)).alloc (.cells zmsg 46)) := al1.alloc al1.size _
  have B1 := Hid.mk_ al2
  have M1 : Hid (((w.alloc (.cells cs 46)).alloc (.cells zmsg 46)).heap[w.heap.size]? = some (.cells cs 46 (0, 0))) := Hid.mk_ ((((Below.refl _ _).alloc (Nat.le_refl _) _).block w.heap.size (by simp)).trans (heap_alloc_new w _))
  have Z1 : Hid (((w.alloc (.cells cs 46)).alloc (.cells zmsg 46)).heap[w.heap.size + 1]? = some (.cells zmsg 46 (0, 0))) := Hid.mk_ (by
    have := heap_alloc_new (w.alloc (.cells cs 46)) (.cells zmsg 46)
    rw [show (w.alloc (.cells cs 46)).heap.size = w.heap.size + 1 by simp] at this
    exact this)
  have D1 := Hid.mk_ (hD.out.below al2)
  have NS := Hid.mk_ hD.out.blk
  clear al1 al2
  go_enter Tryz.func43, Tryz.ntmps43
  go_upto_block 0 with fail
  generalize (w.alloc (.cells cs 46)).alloc (.cells zmsg 46) = w1 at *
  obtain ⟨z, hz⟩ : ∃ z, z = w.heap.size := ⟨_, rfl⟩
  have HZ := Hid.mk_ hz
  have NZ : Hid (∀ i, S i → i < z) := Hid.mk_ (fun i hi => by have := NS.out i hi; omega)
  rw [← hz] at M1 Z1 ⊢
  clear hz NS
  have m0 : w1.cell? ⟨z, 0, none⟩ = some (.int .i64 k) := by rw [cell_of_row w1 z 0 cs 46 (0, 0) M1.out]; exact hc.out.c0
  have m1 : w1.cell? ⟨z, 1, none⟩ = some (.int .i64 f) := by rw [cell_of_row w1 z 1 cs 46 (0, 0) M1.out]; exact hc.out.c1
  have m3 : w1.cell? ⟨z, 3, none⟩ = some (.int .i64 s) := by rw [cell_of_row w1 z 3 cs 46 (0, 0) M1.out]; exact hc.out.c3
  have m4 : w1.cell? ⟨z, 4, none⟩ = some (.int .i64 fo) := by rw [cell_of_row w1 z 4 cs 46 (0, 0) M1.out]; exact hc.out.c4
  have m5 : w1.cell? ⟨z, 5, none⟩ = some (.int .i64 ab) := by rw [cell_of_row w1 z 5 cs 46 (0, 0) M1.out]; exact hc.out.c5
  subst hk
  subst hf
  have hfb : (d.self == d.self) = true := by simp
  obtain ⟨gv, gq, go, gc, A, B, n, cc, C, X⟩ := D1.out
  have XH := Hid.mk_ X
  have c0 : w1.cell? ⟨g, 0, none⟩ = some (.int .i64 d.self) := X.dcs.cell 0
  have lt1 := X.dcs.lt
  have lt2 := World.block_lt_of_cell? w1 _ m0
  clear X
  go_upto_region 3 with fail
  refine wp_draws _ (Below.refl _ _) (by kernel_rfl) (by kernel_rfl) (fun hne hN => ?_)
  repeat (go_big_quiet_step (fail))
  refine wpQuiet_nil (after_cells ?_)
  intro w2 b2 hc2
  have X2 := Hid.mk_ (XH.out.below b2)
  replace m3 := keepC b2 m3
  have Z2 : Hid (w2.heap[z + 1]? = some (.cells zmsg 46 (0, 0))) := Hid.mk_ ((b2.block (z + 1) (Array.getElem?_eq_some_iff.1 Z1.out).1).trans Z1.out)
  have B2 := Hid.mk_ (B1.out.trans (b2.mono B1.out.size))
  clear m0 m1 m4 m5 Z1 B1 M1 D1 c0 lt1 lt2 hne hN hc2 b2 XH
  have c7 : w2.cell? ⟨g, 7, none⟩ = some (.int .i64 d.seq) := X2.out.dcs.cell 7
  have c8 : w2.cell? ⟨g, 8, none⟩ = some (.int .i64 d.asked) := X2.out.dcs.cell 8
  have lt1 := X2.out.dcs.lt
  have lt2 := World.block_lt_of_cell? w2 _ m3
  have hsb : (s == d.seq) = true := by simp [hs]
  have hab : (d.asked != -1) = false := by simp [ha]
  go_upto_region 4 with fail
  refine wp_draws _ (Below.refl _ _) (by kernel_rfl) (by kernel_rfl) (fun hne hN => ?_)
  repeat (go_big_quiet_step (fail))
  refine wpQuiet_nil (after_cells ?_)
  intro w4 b4 hc4
  have Z4 : Hid (w4.heap[z + 1]? = some (.cells zmsg 46 (0, 0))) := Hid.mk_ ((b4.block (z + 1) (Array.getElem?_eq_some_iff.1 Z2.out).1).trans Z2.out)
  have B4 := Hid.mk_ (B2.out.trans (b4.mono B2.out.size))
  have one : Hid ((am 0 0 0 0).all (·.oneCell') = true) := Hid.mk_ (msg_one rfl)
  go_wp2_with (refine wpList_store_row rfl 46 _ _ rfl (z + 1) (am 0 0 0 0) rfl rfl 46 _ Z4.out size42 rfl one.out ?_)
  (try simp only [Exit.inBlock, Exit.then])
  refine bodyPost_ret (v := .agg (am 0 0 0 0)) (results_cell_row rfl _ _ (z + 1) 46 (am 0 0 0 0) (0, 0) _ rfl (ret_row _ Z4.out) Tryz.underlying46 rfl size42) rfl ⟨rfl, ?_⟩
  exact B4.out.trans ((wr_row w4 (z + 1) _).below B4.out.size (fun i hi => by have := HZ.out; omega))
set_option maxRecDepth 100000 in
set_option maxHeartbeats 8000000 in
/-- An ack for oneself: it is answered. -/
theorem ans_self_yes (w : World) (S : Nat → Prop) (g : Nat) (d : Dt) (cs : Array Value) (k f t s fo ab : Int) (cl : Value) (hD : Hid (Det w S g d)) (hc : Hid (MsgC cs k f t s fo ab cl)) (hk : k = 2) (hf : fo = d.self) (hs : s = d.seq) (ha : ¬ d.asked = -1) (d' : Dt) (hd : Hid (d' = { d with M := Wat.without 2 (Wat.without 1 d.M), asked := -1 })) :
    Calls Tryz.prog 43 #[.pointer (some ⟨g, 0, none⟩), .agg cs] w fun e w' => e = .returned (.agg (am 0 0 0 0)) ∧ Hid (DTurn w w' S g d') := by
  have al1 := (Below.refl w.heap.size w).alloc (Nat.le_refl _) (.cells cs 46)
  have al2 : Below w.heap.size w ((w.alloc (.cells cs 46)).alloc (.cells zmsg 46)) := al1.alloc al1.size _
  have B1 := Hid.mk_ al2
  have M1 : Hid (((w.alloc (.cells cs 46)).alloc (.cells zmsg 46)).heap[w.heap.size]? = some (.cells cs 46 (0, 0))) := Hid.mk_ ((((Below.refl _ _).alloc (Nat.le_refl _) _).block w.heap.size (by simp)).trans (heap_alloc_new w _))
  have Z1 : Hid (((w.alloc (.cells cs 46)).alloc (.cells zmsg 46)).heap[w.heap.size + 1]? = some (.cells zmsg 46 (0, 0))) := Hid.mk_ (by
    have := heap_alloc_new (w.alloc (.cells cs 46)) (.cells zmsg 46)
    rw [show (w.alloc (.cells cs 46)).heap.size = w.heap.size + 1 by simp] at this
    exact this)
  have D1 := Hid.mk_ (hD.out.below al2)
  have NS := Hid.mk_ hD.out.blk
  clear al1 al2
  go_enter Tryz.func43, Tryz.ntmps43
  go_upto_block 0 with fail
  generalize (w.alloc (.cells cs 46)).alloc (.cells zmsg 46) = w1 at *
  obtain ⟨z, hz⟩ : ∃ z, z = w.heap.size := ⟨_, rfl⟩
  have HZ := Hid.mk_ hz
  have NZ : Hid (∀ i, S i → i < z) := Hid.mk_ (fun i hi => by have := NS.out i hi; omega)
  rw [← hz] at M1 Z1 ⊢
  clear hz NS
  have m0 : w1.cell? ⟨z, 0, none⟩ = some (.int .i64 k) := by rw [cell_of_row w1 z 0 cs 46 (0, 0) M1.out]; exact hc.out.c0
  have m1 : w1.cell? ⟨z, 1, none⟩ = some (.int .i64 f) := by rw [cell_of_row w1 z 1 cs 46 (0, 0) M1.out]; exact hc.out.c1
  have m3 : w1.cell? ⟨z, 3, none⟩ = some (.int .i64 s) := by rw [cell_of_row w1 z 3 cs 46 (0, 0) M1.out]; exact hc.out.c3
  have m4 : w1.cell? ⟨z, 4, none⟩ = some (.int .i64 fo) := by rw [cell_of_row w1 z 4 cs 46 (0, 0) M1.out]; exact hc.out.c4
  have m5 : w1.cell? ⟨z, 5, none⟩ = some (.int .i64 ab) := by rw [cell_of_row w1 z 5 cs 46 (0, 0) M1.out]; exact hc.out.c5
  subst hk
  subst hf
  have hfb : (d.self == d.self) = true := by simp
  obtain ⟨gv, gq, go, gc, A, B, n, cc, C, X⟩ := D1.out
  have XH := Hid.mk_ X
  have c0 : w1.cell? ⟨g, 0, none⟩ = some (.int .i64 d.self) := X.dcs.cell 0
  have lt1 := X.dcs.lt
  have lt2 := World.block_lt_of_cell? w1 _ m0
  clear X
  go_upto_region 3 with fail
  refine wp_draws _ (Below.refl _ _) (by kernel_rfl) (by kernel_rfl) (fun hne hN => ?_)
  repeat (go_big_quiet_step (fail))
  refine wpQuiet_nil (after_cells ?_)
  intro w2 b2 hc2
  have X2 := Hid.mk_ (XH.out.below b2)
  replace m3 := keepC b2 m3
  have Z2 : Hid (w2.heap[z + 1]? = some (.cells zmsg 46 (0, 0))) := Hid.mk_ ((b2.block (z + 1) (Array.getElem?_eq_some_iff.1 Z1.out).1).trans Z1.out)
  have B2 := Hid.mk_ (B1.out.trans (b2.mono B1.out.size))
  clear m0 m1 m4 m5 Z1 B1 M1 D1 c0 lt1 lt2 hne hN hc2 b2 XH
  have c7 : w2.cell? ⟨g, 7, none⟩ = some (.int .i64 d.seq) := X2.out.dcs.cell 7
  have c8 : w2.cell? ⟨g, 8, none⟩ = some (.int .i64 d.asked) := X2.out.dcs.cell 8
  have lt1 := X2.out.dcs.lt
  have lt2 := World.block_lt_of_cell? w2 _ m3
  have hsb : (s == d.seq) = true := by simp [hs]
  have hab : (d.asked != -1) = true := by simp [ha]
  go_upto_region 4 with fail
  refine wp_draws _ (Below.refl _ _) (by kernel_rfl) (by kernel_rfl) (fun hne hN => ?_)
  repeat (go_big_quiet_step (fail))
  refine wpQuiet_nil (after_cells ?_)
  intro w4 b4 hc4
  have Z4 : Hid (w4.heap[z + 1]? = some (.cells zmsg 46 (0, 0))) := Hid.mk_ ((b4.block (z + 1) (Array.getElem?_eq_some_iff.1 Z2.out).1).trans Z2.out)
  have B4 := Hid.mk_ (B2.out.trans (b4.mono B2.out.size))
  have X4 := Hid.mk_ (X2.out.below b4)
  clear X2 Z2 B2 m3 c7 c8 lt1 lt2 hne hN hc4 b4
  have c5 : w4.cell? ⟨g, 5, none⟩ = some (.pointer (some ⟨gc, 0, none⟩)) := X4.out.dcs.cell 5
  obtain ⟨M5, hM5⟩ : ∃ M5, M5 = Wat.without 1 d.M := ⟨_, rfl⟩
  have HM5 := Hid.mk_ hM5
  clear hM5
  go_upto_region 6 with (go_at_call 64; refine (Wat.cut0 w4 gc C d.M 1 (Hid.mk_ X4.out.ck) _ (Hid.mk_ rfl) M5 HM5).mono ?_; rintro e w5 ⟨rfl, t5⟩)
  obtain ⟨C5, S5, x5, hS5, rS5⟩ := X4.out.turnC t5.out
  have X5 := Hid.mk_ x5
  have HS5 : Hid (∀ i, S5 i → S i ∨ w.heap.size ≤ i) := Hid.mk_ (fun i hi => (hS5 i hi).elim .inl (fun h => .inr (Nat.le_trans B4.out.size h)))
  have lz := (Array.getElem?_eq_some_iff.1 Z4.out).1
  have NS5 : Hid (∀ i, S5 i → ¬ i = z + 1) := Hid.mk_ (fun i hi e => (hS5 i hi).elim (fun h => by have := NZ.out i h; omega) (fun h => by omega))
  have R5 := Hid.mk_ ((Rum.Wr.of_below B4.out S).then_ rS5 (fun i hi => .inl hi))
  have Z5 : Hid (w5.heap[z + 1]? = some (.cells zmsg 46 (0, 0))) := Hid.mk_ ((rS5.block (z + 1) lz (fun h => by have := NZ.out _ h; omega)).trans Z4.out)
  clear c5 X4 x5 hS5 rS5 t5 B4 Z4 lz
  have c5 : w5.cell? ⟨g, 5, none⟩ = some (.pointer (some ⟨gc, 0, none⟩)) := X5.out.dcs.cell 5
  obtain ⟨M6, hM6⟩ : ∃ M6, M6 = Wat.without 2 M5 := ⟨_, rfl⟩
  have HM6 := Hid.mk_ hM6
  clear hM6
  go_upto_region 7 with (go_at_call 64; refine (Wat.cut0 w5 gc C5 M5 2 (Hid.mk_ X5.out.ck) _ (Hid.mk_ rfl) M6 HM6).mono ?_; rintro e w6 ⟨rfl, t6⟩)
  obtain ⟨C6, S6, x6, hS6, rS6⟩ := X5.out.turnC t6.out
  have X6 := Hid.mk_ x6
  have HS6 : Hid (∀ i, S6 i → S i ∨ w.heap.size ≤ i) := Hid.mk_ (fun i hi => (hS6 i hi).elim (HS5.out i) (fun h => .inr (Nat.le_trans R5.out.size h)))
  have lz := (Array.getElem?_eq_some_iff.1 Z5.out).1
  have NS6 : Hid (∀ i, S6 i → ¬ i = z + 1) := Hid.mk_ (fun i hi e => (hS6 i hi).elim (fun h => NS5.out i h e) (fun h => by omega))
  have R6 := Hid.mk_ (R5.out.then_ rS6 HS5.out)
  have Z6 : Hid (w6.heap[z + 1]? = some (.cells zmsg 46 (0, 0))) := Hid.mk_ ((rS6.block (z + 1) lz (fun h => NS5.out _ h rfl)).trans Z5.out)
  clear c5 X5 x6 hS6 rS6 t6 R5 Z5 lz NS5 HS5
  have f8 : w6.frozen? ⟨g, 8, none⟩ = false := X6.out.dcs.fr 8
  have c8 : w6.cell? ⟨g, 8, none⟩ = some (.int .i64 d.asked) := X6.out.dcs.cell 8
  go_upto_region 12 with fail
  have ws := Rum.Wr.set w6 g 8 (.int .i64 (-1))
  have X7 := Hid.mk_ (X6.out.turnD ws (X6.out.dcs.set 8 (.int .i64 (-1)) { d with M := M6, asked := -1 } rfl) ⟨X6.out.ok.self, X6.out.ok.inc, X6.out.ok.now, X6.out.ok.seq, by show (-1 : Int) ≤ -1 ∧ (-1 : Int) ≤ 7; omega⟩ ⟨rfl, rfl, rfl, rfl, rfl, rfl⟩)
  have R7 := Hid.mk_ (R6.out.then_ ws (fun i hi => HS6.out i (by rw [hi]; exact X6.out.sg)))
  have Z7 : Hid ((w6.setCell ⟨g, 8, none⟩ (.int .i64 (-1))).heap[z + 1]? = some (.cells zmsg 46 (0, 0))) := Hid.mk_ ((ws.block (z + 1) (Array.getElem?_eq_some_iff.1 Z6.out).1 (fun h => NS6.out g X6.out.sg h.symm)).trans Z6.out)
  clear f8 c8 X6 R6 Z6 ws
  generalize w6.setCell ⟨g, 8, none⟩ (.int .i64 (-1)) = w7 at *
  have one : Hid ((am 0 0 0 0).all (·.oneCell') = true) := Hid.mk_ (msg_one rfl)
  go_wp2_with (refine wpList_store_row rfl 46 _ _ rfl (z + 1) (am 0 0 0 0) rfl rfl 46 _ Z7.out size42 rfl one.out ?_)
  (try simp only [Exit.inBlock, Exit.then])
  refine bodyPost_ret (v := .agg (am 0 0 0 0)) (results_cell_row rfl _ _ (z + 1) 46 (am 0 0 0 0) (0, 0) _ rfl (ret_row _ Z7.out) Tryz.underlying46 rfl size42) rfl ⟨rfl, ?_⟩
  have wr := wr_row w7 (z + 1) (am 0 0 0 0)
  have ed : { d with M := M6, asked := -1 } = d' := by rw [hd.out, HM6.out, HM5.out]
  have X8 := X7.out.wr wr (fun j hj e => NS6.out j hj e)
  rw [ed] at X8
  exact Hid.mk_ ⟨S6, ⟨gv, gq, go, gc, A, B, n, cc, C6, X8⟩, HS6.out, R7.out.then_ wr (fun i hi => .inr (by have := HZ.out; omega))⟩
end Go.Proofs.YthndjhocmpelcaaGreat.Swi
