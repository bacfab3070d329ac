/- SwimRises: the walk of the law: what is believed of anybody never falls. No condition. -/
import Derived.Test.YthndjhocmpelcaaLe
namespace Go.Proofs.Ythndjhocmpelcaa.WSwimRises
open Go.RowKit Kit Tri3 Swi
set_option linter.unusedVariables false
@[reducible] def sh2 : Sh := shCall
theorem now_ask : ∀ (l : List Int) (x : Dt × List Om), (askL x l).1.now = x.1.now
  | [], x => rfl
  | a :: l, x => now_ask l (ask1 x a)
theorem now_due (ps : List Int) (dr : Int) : ∀ (l : List Int) (x : Dt × List Om), (dueA ps dr x l).1.now = x.1.now
  | [], x => rfl
  | a :: l, x => by
    refine (now_due ps dr l (dueS ps dr x a)).trans ?_
    unfold dueS
    split
    · exact now_ask _ _
    · split
      · show (d2 x.1).now = x.1.now
        unfold d2
        split
        · exact (Kp.hears _ _).now
        · rfl
      · show (d100 x.1 a).now = x.1.now
        unfold d100
        split
        · exact (Kp.hears _ _).now
        · rfl
theorem now_tick (ps : List Int) (dr : Int) (d : Dt) : (dTick ps dr d).1.now = d.now + 1 := by
  have h : (dDue ps dr d).1.now = d.now + 1 := now_due ps dr _ _
  unfold dTick
  split
  · rfl
  · unfold tickA
    split
    · exact h
    · split <;> exact h
theorem now_leave (d : Dt) : (dLeave d).now = d.now := by
  unfold dLeave
  split <;> rfl
theorem now_handle (d : Dt) (k f t s fo ab : Int) (ls : List Cl) : (dHandle d k f t s fo ab ls).now = d.now := by
  have h2 : (dAns (dMeets d f ls) k s fo).now = d.now := by rw [(ans_q _ k s fo).2.2.2.1, (Kp.meets d f ls).now]
  unfold dHandle
  split
  · rfl
  · split
    · exact h2
    · exact h2
theorem det_c1 {w : World} {S : Nat → Prop} {g : Nat} {d : Dt} (h : Det w S g d) : w.cell? ⟨g, 1, none⟩ = some (.int .i64 d.inc) ∧ w.cell? ⟨g, 9, none⟩ = some (.bool d.over) ∧ g < w.heap.size := by
  obtain ⟨gv, gq, go, gc, A, B, n, c, C, X⟩ := h
  exact ⟨X.dcs.cell 1, X.dcs.cell 9, X.dcs.lt⟩
theorem inc0c (w : World) (g : Nat) (x : Int) (hc : Hid (w.cell? ⟨g, 1, none⟩ = some (.int .i64 x))) : Calls Try.prog 15 #[.pointer (some ⟨g, 0, none⟩)] w fun e w' => e = .returned (.int .i64 x) ∧ Below w.heap.size w w' := by
  have c0 := hc.out
  go_enter Try.func15, Try.ntmps15
  go_wp2_with fail
  go_ret
  exact ⟨rfl, Below.refl _ _⟩
theorem over0c (w : World) (g : Nat) (x : Bool) (hc : Hid (w.cell? ⟨g, 9, none⟩ = some (.bool x))) : Calls Try.prog 22 #[.pointer (some ⟨g, 0, none⟩)] w fun e w' => e = .returned (.bool x) ∧ Below w.heap.size w w' := by
  have c0 := hc.out
  go_enter Try.func22, Try.ntmps22
  go_wp2_with fail
  go_ret
  exact ⟨rfl, Below.refl _ _⟩
theorem cof_at (d : Dt) (k : Nat) (hk : k < 8) : cOf d (k : Int) = ⟨(k : Int), d.p k, d.q k⟩ := by
  unfold cOf Bel.onN Bel.on
  rw [if_pos (by omega), if_pos (by omega), if_pos (by omega)]
  rfl
/-- What a call of the law leaves. -/
structure Nx (s : Nat) (dj d2 : Dt) (j : Nat) : Prop where
  vok : Vok d2
  ow : Ow s d2
  up : Up dj d2
  inc : dj.inc ≤ d2.inc
  now : d2.now ≤ (j : Int) + 1
theorem Nx.of {s : Nat} {dj d2 : Dt} {j : Nat} (h : Stp s dj d2) (hn : d2.now ≤ (j : Int) + 1) : Nx s dj d2 j := ⟨h.vok, h.ow, h.up, h.inc, hn⟩
set_option maxRecDepth 100000 in
set_option maxHeartbeats 32000000 in
theorem law (w : World) (s : Nat) (i : Int) (hs : s < 8) (hi : Hid (0 ≤ i ∧ i ≤ 1000000)) (A : Option Addr) (n c : Nat) (qs : List Qc) (hq : Hid (QsAt w A qs)) (hn : Hid (n = qs.length)) (hc : n ≤ c) (hcc : c ≤ 9223372036854775807) : Calls Try.prog 7 #[.int .i64 (s : Int), .int .i64 i, .slice A n c] w fun e w' => e = .returned (.bool true) ∧ Below w.heap.size w w' := by
  have hsi : Hid (0 ≤ (s : Int) ∧ (s : Int) ≤ 7) := Hid.mk_ (by omega)
  have NB : Hid (true = Hth.nodeB (s : Int)) := Hid.mk_ (by unfold Hth.nodeB; simp; omega)
  have HL := Hid.mk_ (light1 w A n c qs hq hn hc hcc)
  have i0 : ¬ i < 0 := by have := hi.out; omega
  have i1 : ¬ 1000000 < i := by have := hi.out; omega
  go_enter Try.func7, Try.ntmps7
  go_wp2_with fail
  refine HL.out.mono ?_
  rintro e w1 ⟨b, rfl, hb, b1⟩
  have B1 := Hid.mk_ b1
  clear b1 HL
  cases b with
  | false =>
    go_wp2_with (go_at_call 11; refine (awake _).mono ?_; rintro e w2 ⟨rfl, b2⟩)
    go_ret
    exact ⟨rfl, B1.out.trans (b2.mono B1.out.size)⟩
  | true =>
    have n80 : n ≤ 80 := hb.out rfl
    clear hb
    have OW0 := Hid.mk_ (new_ow (s := s) (i := i) hs hi.out)
    have V0 := Hid.mk_ (Vok.new (s : Int) i)
    go_wp2_with (first
      | (go_at_call 20; refine (node20 (s : Int) w1 true NB).mono ?_; rintro e w2 ⟨rfl, e2⟩; have e3 := e2.symm; subst e3)
      | (go_at_call 9; refine (newD w1 (s : Int) i hsi hi).mono ?_; rintro e w3 ⟨g, S3, rfl, D3, HS3, b3⟩))
    have B3 := Hid.mk_ (B1.out.trans (b3.mono B1.out.size))
    have H3 : Hid (∀ k, S3 k → w.heap.size ≤ k) := Hid.mk_ (fun k hk => Nat.le_trans B1.out.size (HS3.out k hk))
    clear b3 HS3 i0 i1
    go_loopw [8, 38] (fun lf ix wr => ∃ (j : Nat) (dj : Dt), lf = .bool dj.left ∧ ix = .int .i64 (j : Int) ∧ j ≤ n ∧ Hid (dj.now ≤ (j : Int)) ∧ Hid (Vok dj) ∧ Hid (Ow s dj) ∧ Hid (DTurn w3 wr S3 g dj)) (fun _ ix _ => n - (intOf ix).toNat)
    case atStart => exact ⟨0, dNew (s : Int) i, rfl, rfl, by omega, Hid.mk_ (by rw [(dNew_ok _ _).1]; decide), V0, OW0, Hid.mk_ (DTurn.of_below D3.out (Below.refl _ _))⟩
    case round =>
      obtain ⟨j, dj, rfl, rfl, hj, NJ, VJ, OWJ, DT⟩ := hrel
      obtain ⟨S5, D5, k5, r5⟩ := DT.out
      have HD5 := Hid.mk_ D5
      have K5 := Hid.mk_ k5
      have R5 := Hid.mk_ r5
      have BW := Hid.mk_ (B3.out.trans (r5.below B3.out.size H3.out))
      have HS5 : Hid (∀ i, S5 i → w.heap.size ≤ i) := Hid.mk_ (fun i hi => (k5 i hi).elim (H3.out i) (fun h => Nat.le_trans B3.out.size h))
      clear D5 k5 r5 DT
      by_cases hlt : j < n
      · obtain ⟨q, hqj⟩ : ∃ q, qs[j]? = some q := ⟨_, List.getElem?_eq_getElem (by have := hn.out; omega)⟩
        obtain ⟨b, off, es, rfl, hb, hr, hl⟩ := hq.out j q hqj
        have HL := Hid.mk_ hl
        have HR : Hid (wr.rangeAt b (off + j * 68) es) := Hid.mk_ (range_keep hr (fun h => BW.out.block b h))
        clear hqj hb hr hl
        have l1 : (j : Int) < (n : Int) := by omega
        have l0 : (0 : Int) ≤ (j : Int) := by omega
        have CB := Hid.mk_ (call_box wr es)
        have ZZ := Hid.mk_ (heap_alloc_new wr (.cells Try.zeroCells58 58))
        go_upto_region 8 with (first
          | (refine wpList_load_mid rfl 58 _ rfl b (off + j * 68) rfl es _ HR.out Try.underlying58 rfl (call_size2 HL.out) ?_)
          | (refine wpList_store_row rfl 58 _ _ rfl wr.heap.size es.toArray rfl rfl 58 _ ZZ.out (call_size HL.out) (call_size3 HL.out) (call_one HL.out) ?_))
        have BB := Hid.mk_ CB.out.2
        have M0 := Hid.mk_ CB.out.1
        have HDb := Hid.mk_ (HD5.out.below BB.out)
        have NZ : Hid (¬ S5 wr.heap.size) := Hid.mk_ (fun h => by have := HD5.out.blk _ h; omega)
        clear ZZ CB HD5
        generalize (wr.alloc (.cells Try.zeroCells58 58)).setRow wr.heap.size es.toArray = wb at *
        generalize wr.heap.size = z at M0 NZ ⊢
        go_upto_region 10 with (first
          | (go_at_call 21; refine (all1 wb S5 g dj HDb).mono ?_; intro e w7 hls; obtain ⟨A7, n7, c7, rfl, o7, h7, h7m, b7⟩ := listed_own hls; have HD7 := Hid.mk_ (HDb.out.below b7))
          | (go_at_call 15; refine (inc0 w7 S5 g dj HD7 dj.inc (Hid.mk_ rfl)).mono ?_; rintro e w8 ⟨rfl, e8⟩; have e9 := e8.symm; subst e9))
        have B57 := Hid.mk_ (BB.out.trans (b7.mono BB.out.size))
        have BWb := Hid.mk_ (BW.out.trans (B57.out.mono BW.out.size))
        have M7 : Hid (w7.heap[z]? = some (.cells es.toArray 58 (0, 0))) := Hid.mk_ (rowk M0.out b7)
        have O7 := Hid.mk_ o7
        have NO7 : Hid (∀ k, (Value.slice A7 n7 c7).ownBlock = some k → ¬ S5 k) := Hid.mk_ (fun k hk h => by have h1 := (Rowz.blk o7.2 k hk).1; have := HDb.out.blk k h; omega)
        have N7 : Hid (n7 ≤ 8 ∧ n7 ≤ c7 ∧ c7 ≤ 9223372036854775807) := Hid.mk_ ⟨by have h1 := o7.1; rw [h1, ← (lsC_cells _ _ _ 8).2]; exact Bel.cnt_le _ 8, h7, h7m⟩
        clear o7 h7 h7m b7 hls M0 HDb BB
        have y0 : w7.cell? ⟨z, 0, none⟩ = some (.int .i64 q.d) := rowe M7.out HL.out.e0
        go_upto_block 2 with fail
        go_cut [8] from 48 to 119 (fun s8 wx => ∃ d2, s8 = .bool d2.left ∧ Hid (DTurn w7 wx S5 g d2) ∧ Hid (Nx s dj d2 j))
        case first =>
          clear O7 NO7 N7
          have y1 : w7.cell? ⟨z, 1, none⟩ = some (.int .i64 q.c.n) := rowe M7.out HL.out.e1
          have y2 : w7.cell? ⟨z, 2, none⟩ = some (.int .i64 q.c.i) := rowe M7.out HL.out.e2
          have y3 : w7.cell? ⟨z, 3, none⟩ = some (.int .i64 q.c.h) := rowe M7.out HL.out.e3
          have y66 : w7.cell? ⟨z, 66, none⟩ = some (.slice q.Ap q.np q.cp) := rowe M7.out HL.out.e66
          have y67 : w7.cell? ⟨z, 67, none⟩ = some (.int .u64 q.dr) := rowe M7.out HL.out.e67
          by_cases c0 : q.d = 0
          · have b0 : (q.d == 0) = true := by simp [c0]
            clear c0
            obtain ⟨d8, hd8⟩ : ∃ d8, d8 = dHear dj q.c := ⟨_, rfl⟩
            have HD8E := Hid.mk_ hd8
            have ST : Hid (Stp s dj d8) := Hid.mk_ (by rw [hd8]; exact Stp.hear VJ.out OWJ.out q.c)
            have NW8 : Hid (d8.now ≤ (j : Int) + 1) := Hid.mk_ (by rw [hd8, (hear_kp dj q.c).now]; have := NJ.out; omega)
            have INC8 : Hid (0 ≤ d8.inc ∧ d8.inc ≤ 1000000) := Hid.mk_ ST.out.ow.inc
            clear hd8
            go_upto_region 14 with (go_at_call 12; refine (hear1 w7 S5 g dj q.c HD7 d8 HD8E _ (Hid.mk_ rfl)).mono ?_; rintro e w8 ⟨rfl, t8⟩)
            obtain ⟨S8, D8, k8, r8⟩ := t8.out
            have c1 : Hid (w8.cell? ⟨g, 1, none⟩ = some (.int .i64 d8.inc)) := Hid.mk_ (det_c1 D8).1
            have c9 : Hid (w8.cell? ⟨g, 9, none⟩ = some (.bool d8.over)) := Hid.mk_ (det_c1 D8).2.1
            have lg : Hid (g < w8.heap.size) := Hid.mk_ (det_c1 D8).2.2
            have v1 := r8.cell y1 NZ.out
            have v2 := r8.cell y2 NZ.out
            have v3 := r8.cell y3 NZ.out
            have lz := World.block_lt_of_cell? w8 _ v1
            have lg2 := lg.out
            clear y0 y1 y2 y3 y66 y67 D8 k8 r8 HD7
            go_cut [108] from 60 to 108 (fun s108 wx => s108 = .bool false ∧ Hid (Below w8.heap.size w8 wx))
            case first =>
              obtain ⟨mb, hmb⟩ : ∃ mb, mb = Hth.mayC q.c.n q.c.i q.c.h := ⟨_, rfl⟩
              have HMB := Hid.mk_ hmb
              clear hmb
              have u1 := v1
              by_cases a1 : q.c.n = (s : Int)
              · have A1 := Hid.mk_ a1
                have ab1 : (q.c.n == (s : Int)) = true := by simp [a1]
                clear a1
                by_cases a2 : q.c.h = 2
                · have HH : Hid (q.c.h = 2 ∨ q.c.h = 3) := Hid.mk_ (.inl a2)
                  have b2 : (q.c.h == 2) = true := by simp [a2]
                  clear a2
                  cases mb with
                  | false =>
                    refine wp_draws _ (Below.refl _ _) (by kernel_rfl) (by kernel_rfl) (fun hne hN => ?_)
                    repeat (go_big_quiet_step (first
                      | (go_at_call 19; with_reducible exact After.calls (Hth.may1 _ _ _ _ _ HMB))
                      | (go_at_call 15; with_reducible exact After.calls (inc0c _ g d8.inc (Hid.mk_ ((hN _ g 1 lg.out).trans c1.out))))
                      | (go_at_call 22; with_reducible exact After.calls (over0c _ g d8.over (Hid.mk_ ((hN _ g 9 lg.out).trans c9.out))))
                      | fail))
                    refine wpQuiet_nil (after_cells ?_)
                    intro w9 b9 hc9
                    clear hne hN hc9
                    go_wp2_with fail
                    go_meet
                    exact ⟨rfl, Hid.mk_ b9⟩
                  | true =>
                    by_cases a3 : dj.inc ≤ q.c.i
                    · have DB := Hid.mk_ (hear_doubt OWJ.out q.c (A1.out.trans OWJ.out.self.symm) HH.out HMB.out.symm a3)
                      have HI : Hid (0 ≤ q.c.i ∧ q.c.i ≤ 1000000) := Hid.mk_ (may_i HMB.out.symm).2.2
                      by_cases a4 : q.c.i = 1000000
                      · have ov : d8.over = true := by rw [HD8E.out]; exact DB.out.2 a4
                        have ni : ¬ d8.inc = q.c.i + 1 := by rw [a4]; have := INC8.out; omega
                        have nib : (d8.inc == q.c.i + 1) = false := by simp [ni]
                        have wi : IntKind.i64.wrap (q.c.i + 1) = q.c.i + 1 := IntWalk.i64_in _ (by rw [a4]; decide)
                        have bi : (q.c.i == 1000000) = true := by simp [a4]
                        rw [ov] at c9
                        have HOV := Hid.mk_ ov
                        clear ni a4 ov
                        have db3 : decide (dj.inc ≤ q.c.i) = true := by simp [a3]
                        refine wp_draws _ (Below.refl _ _) (by kernel_rfl) (by kernel_rfl) (fun hne hN => ?_)
                        repeat (go_big_quiet_step (first
                          | (go_at_call 19; with_reducible exact After.calls (Hth.may1 _ _ _ _ _ HMB))
                          | (go_at_call 15; with_reducible exact After.calls (inc0c _ g d8.inc (Hid.mk_ ((hN _ g 1 lg.out).trans c1.out))))
                          | (go_at_call 22; with_reducible exact After.calls (over0c _ g true (Hid.mk_ ((hN _ g 9 lg.out).trans c9.out))))
                          | fail))
                        refine wpQuiet_nil (after_cells ?_)
                        intro w9 b9 hc9
                        clear hne hN hc9
                        go_wp2_with fail
                        go_meet
                        exact ⟨rfl, Hid.mk_ b9⟩
                      · have ei : d8.inc = q.c.i + 1 := by rw [HD8E.out]; exact DB.out.1 a4
                        have wi : IntKind.i64.wrap (q.c.i + 1) = q.c.i + 1 := IntWalk.i64_in _ (by have := HI.out; omega)
                        rw [ei] at c1
                        clear ei a4
                        have db3 : decide (dj.inc ≤ q.c.i) = true := by simp [a3]
                        refine wp_draws _ (Below.refl _ _) (by kernel_rfl) (by kernel_rfl) (fun hne hN => ?_)
                        repeat (go_big_quiet_step (first
                          | (go_at_call 19; with_reducible exact After.calls (Hth.may1 _ _ _ _ _ HMB))
                          | (go_at_call 15; with_reducible exact After.calls (inc0c _ g (q.c.i + 1) (Hid.mk_ ((hN _ g 1 lg.out).trans c1.out))))
                          | (go_at_call 22; with_reducible exact After.calls (over0c _ g d8.over (Hid.mk_ ((hN _ g 9 lg.out).trans c9.out))))
                          | fail))
                        refine wpQuiet_nil (after_cells ?_)
                        intro w9 b9 hc9
                        clear hne hN hc9
                        go_wp2_with fail
                        go_meet
                        exact ⟨rfl, Hid.mk_ b9⟩
                    · have a3b : decide (dj.inc ≤ q.c.i) = false := by simp [a3]
                      have a3c : ¬ dj.inc ≤ q.c.i := a3
                      refine wp_draws _ (Below.refl _ _) (by kernel_rfl) (by kernel_rfl) (fun hne hN => ?_)
                      repeat (go_big_quiet_step (first
                        | (go_at_call 19; with_reducible exact After.calls (Hth.may1 _ _ _ _ _ HMB))
                        | (go_at_call 15; with_reducible exact After.calls (inc0c _ g d8.inc (Hid.mk_ ((hN _ g 1 lg.out).trans c1.out))))
                        | (go_at_call 22; with_reducible exact After.calls (over0c _ g d8.over (Hid.mk_ ((hN _ g 9 lg.out).trans c9.out))))
                        | fail))
                      refine wpQuiet_nil (after_cells ?_)
                      intro w9 b9 hc9
                      clear hne hN hc9
                      go_wp2_with fail
                      go_meet
                      exact ⟨rfl, Hid.mk_ b9⟩
                · have b2 : (q.c.h == 2) = false := by simp [a2]
                  by_cases a5 : q.c.h = 3
                  · have HH : Hid (q.c.h = 2 ∨ q.c.h = 3) := Hid.mk_ (.inr a5)
                    have b5 : (q.c.h == 3) = true := by simp [a5]
                    clear a2 a5
                    cases mb with
                    | false =>
                      refine wp_draws _ (Below.refl _ _) (by kernel_rfl) (by kernel_rfl) (fun hne hN => ?_)
                      repeat (go_big_quiet_step (first
                        | (go_at_call 19; with_reducible exact After.calls (Hth.may1 _ _ _ _ _ HMB))
                        | (go_at_call 15; with_reducible exact After.calls (inc0c _ g d8.inc (Hid.mk_ ((hN _ g 1 lg.out).trans c1.out))))
                        | (go_at_call 22; with_reducible exact After.calls (over0c _ g d8.over (Hid.mk_ ((hN _ g 9 lg.out).trans c9.out))))
                        | fail))
                      refine wpQuiet_nil (after_cells ?_)
                      intro w9 b9 hc9
                      clear hne hN hc9
                      go_wp2_with fail
                      go_meet
                      exact ⟨rfl, Hid.mk_ b9⟩
                    | true =>
                      by_cases a3 : dj.inc ≤ q.c.i
                      · have DB := Hid.mk_ (hear_doubt OWJ.out q.c (A1.out.trans OWJ.out.self.symm) HH.out HMB.out.symm a3)
                        have HI : Hid (0 ≤ q.c.i ∧ q.c.i ≤ 1000000) := Hid.mk_ (may_i HMB.out.symm).2.2
                        by_cases a4 : q.c.i = 1000000
                        · have ov : d8.over = true := by rw [HD8E.out]; exact DB.out.2 a4
                          have ni : ¬ d8.inc = q.c.i + 1 := by rw [a4]; have := INC8.out; omega
                          have nib : (d8.inc == q.c.i + 1) = false := by simp [ni]
                          have wi : IntKind.i64.wrap (q.c.i + 1) = q.c.i + 1 := IntWalk.i64_in _ (by rw [a4]; decide)
                          have bi : (q.c.i == 1000000) = true := by simp [a4]
                          rw [ov] at c9
                          have HOV := Hid.mk_ ov
                          clear ni a4 ov
                          have db3 : decide (dj.inc ≤ q.c.i) = true := by simp [a3]
                          refine wp_draws _ (Below.refl _ _) (by kernel_rfl) (by kernel_rfl) (fun hne hN => ?_)
                          repeat (go_big_quiet_step (first
                            | (go_at_call 19; with_reducible exact After.calls (Hth.may1 _ _ _ _ _ HMB))
                            | (go_at_call 15; with_reducible exact After.calls (inc0c _ g d8.inc (Hid.mk_ ((hN _ g 1 lg.out).trans c1.out))))
                            | (go_at_call 22; with_reducible exact After.calls (over0c _ g true (Hid.mk_ ((hN _ g 9 lg.out).trans c9.out))))
                            | fail))
                          refine wpQuiet_nil (after_cells ?_)
                          intro w9 b9 hc9
                          clear hne hN hc9
                          go_wp2_with fail
                          go_meet
                          exact ⟨rfl, Hid.mk_ b9⟩
                        · have ei : d8.inc = q.c.i + 1 := by rw [HD8E.out]; exact DB.out.1 a4
                          have wi : IntKind.i64.wrap (q.c.i + 1) = q.c.i + 1 := IntWalk.i64_in _ (by have := HI.out; omega)
                          rw [ei] at c1
                          clear ei a4
                          have db3 : decide (dj.inc ≤ q.c.i) = true := by simp [a3]
                          refine wp_draws _ (Below.refl _ _) (by kernel_rfl) (by kernel_rfl) (fun hne hN => ?_)
                          repeat (go_big_quiet_step (first
                            | (go_at_call 19; with_reducible exact After.calls (Hth.may1 _ _ _ _ _ HMB))
                            | (go_at_call 15; with_reducible exact After.calls (inc0c _ g (q.c.i + 1) (Hid.mk_ ((hN _ g 1 lg.out).trans c1.out))))
                            | (go_at_call 22; with_reducible exact After.calls (over0c _ g d8.over (Hid.mk_ ((hN _ g 9 lg.out).trans c9.out))))
                            | fail))
                          refine wpQuiet_nil (after_cells ?_)
                          intro w9 b9 hc9
                          clear hne hN hc9
                          go_wp2_with fail
                          go_meet
                          exact ⟨rfl, Hid.mk_ b9⟩
                      · have a3b : decide (dj.inc ≤ q.c.i) = false := by simp [a3]
                        have a3c : ¬ dj.inc ≤ q.c.i := a3
                        refine wp_draws _ (Below.refl _ _) (by kernel_rfl) (by kernel_rfl) (fun hne hN => ?_)
                        repeat (go_big_quiet_step (first
                          | (go_at_call 19; with_reducible exact After.calls (Hth.may1 _ _ _ _ _ HMB))
                          | (go_at_call 15; with_reducible exact After.calls (inc0c _ g d8.inc (Hid.mk_ ((hN _ g 1 lg.out).trans c1.out))))
                          | (go_at_call 22; with_reducible exact After.calls (over0c _ g d8.over (Hid.mk_ ((hN _ g 9 lg.out).trans c9.out))))
                          | fail))
                        refine wpQuiet_nil (after_cells ?_)
                        intro w9 b9 hc9
                        clear hne hN hc9
                        go_wp2_with fail
                        go_meet
                        exact ⟨rfl, Hid.mk_ b9⟩
                  · have b5 : (q.c.h == 3) = false := by simp [a5]
                    clear a2 a5
                    refine wp_draws _ (Below.refl _ _) (by kernel_rfl) (by kernel_rfl) (fun hne hN => ?_)
                    repeat (go_big_quiet_step (first
                      | (go_at_call 19; with_reducible exact After.calls (Hth.may1 _ _ _ _ _ HMB))
                      | (go_at_call 15; with_reducible exact After.calls (inc0c _ g d8.inc (Hid.mk_ ((hN _ g 1 lg.out).trans c1.out))))
                      | (go_at_call 22; with_reducible exact After.calls (over0c _ g d8.over (Hid.mk_ ((hN _ g 9 lg.out).trans c9.out))))
                      | fail))
                    refine wpQuiet_nil (after_cells ?_)
                    intro w9 b9 hc9
                    clear hne hN hc9
                    go_wp2_with fail
                    go_meet
                    exact ⟨rfl, Hid.mk_ b9⟩
              · have ab1 : (q.c.n == (s : Int)) = false := by simp [a1]
                clear a1
                refine wp_draws _ (Below.refl _ _) (by kernel_rfl) (by kernel_rfl) (fun hne hN => ?_)
                repeat (go_big_quiet_step (first
                  | (go_at_call 19; with_reducible exact After.calls (Hth.may1 _ _ _ _ _ HMB))
                  | (go_at_call 15; with_reducible exact After.calls (inc0c _ g d8.inc (Hid.mk_ ((hN _ g 1 lg.out).trans c1.out))))
                  | (go_at_call 22; with_reducible exact After.calls (over0c _ g d8.over (Hid.mk_ ((hN _ g 9 lg.out).trans c9.out))))
                  | fail))
                refine wpQuiet_nil (after_cells ?_)
                intro w9 b9 hc9
                clear hne hN hc9
                go_wp2_with fail
                go_meet
                exact ⟨rfl, Hid.mk_ b9⟩
            case rest =>
              obtain ⟨rfl, B9⟩ := hcut
              go_wp2_with fail
              go_meet
              exact ⟨d8, by rw [ST.out.left], Hid.mk_ (t8.out.then_below B9.out), Hid.mk_ (Nx.of ST.out NW8.out)⟩
          · have b0 : (q.d == 0) = false := by simp [c0]
            by_cases c1 : q.d = 1
            · have b1 : (q.d == 1) = true := by simp [c1]
              clear c0 c1
              have LS := Hid.mk_ (leave_step VJ.out OWJ.out)
              go_wp2_with (go_at_call 17; refine (leave1 w7 S5 g dj HD7 _ (Hid.mk_ rfl) _ (Hid.mk_ rfl)).mono ?_; rintro e w8 ⟨rfl, t8⟩)
              go_meet
              exact ⟨dLeave dj, by rw [LS.out.2.2.2.2], t8, Hid.mk_ ⟨LS.out.1, LS.out.2.1, LS.out.2.2.1, LS.out.2.2.2.1, by rw [now_leave]; have := NJ.out; omega⟩⟩
            · have b1 : (q.d == 1) = false := by simp [c1]
              have HCL : Hid (ClAt w7 q.P q.ls) := Hid.mk_ (HL.out.cl.keep BWb.out)
              have HMC := Hid.mk_ HL.out.msg
              by_cases c2 : q.d = 2
              · have b2 : (q.d == 2) = true := by simp [c2]
                clear c0 c1 c2
                have ST := Hid.mk_ (Stp.handle VJ.out OWJ.out q.k q.f q.t q.s q.fo q.ab q.ls)
                go_wp2_with (first
                  | (refine wpList_load_mid rfl 42 _ rfl z 4 rfl _ _ (rowe_msg M7.out) Try.underlying42 rfl (range_len HL.out.len) ?_)
                  | (go_at_call 10; refine (handle1 w7 S5 g dj _ q.k q.f q.t q.s q.fo q.ab q.P q.n q.cc q.ls HD7 VJ HMC HCL (HL.out.noS HS5.out) (Hid.mk_ HL.out.ln) HL.out.nc HL.out.max _ (Hid.mk_ rfl) _ (Hid.mk_ rfl)).mono ?_; rintro e w8 ⟨v8, T8, rfl, o8, t8⟩))
                go_meet
                exact ⟨dHandle dj q.k q.f q.t q.s q.fo q.ab q.ls, by rw [ST.out.left], Hid.mk_ t8.out.turn, Hid.mk_ (Nx.of ST.out (by rw [now_handle]; have := NJ.out; omega))⟩
              · have b2 : (q.d == 2) = false := by simp [c2]
                by_cases c3 : q.d = 3
                · have b3 : (q.d == 3) = true := by simp [c3]
                  clear c0 c1 c2 c3
                  have ST := Hid.mk_ (Stp.handle VJ.out OWJ.out q.k q.f q.t q.s q.fo q.ab q.ls)
                  go_wp2_with (first
                    | (refine wpList_load_mid rfl 42 _ rfl z 4 rfl _ _ (rowe_msg M7.out) Try.underlying42 rfl (range_len HL.out.len) ?_)
                    | (go_at_call 10; refine (handle1 w7 S5 g dj _ q.k q.f q.t q.s q.fo q.ab q.P q.n q.cc q.ls HD7 VJ HMC HCL (HL.out.noS HS5.out) (Hid.mk_ HL.out.ln) HL.out.nc HL.out.max _ (Hid.mk_ rfl) _ (Hid.mk_ rfl)).mono ?_; rintro e w8 ⟨v8, T8, rfl, o8, t8⟩))
                  go_meet
                  exact ⟨dHandle dj q.k q.f q.t q.s q.fo q.ab q.ls, by rw [ST.out.left], Hid.mk_ t8.out.turn, Hid.mk_ (Nx.of ST.out (by rw [now_handle]; have := NJ.out; omega))⟩
                · have b3 : (q.d == 3) = false := by simp [c3]
                  clear c0 c1 c2 c3
                  have hnow : dj.now < 1000000 := by have := NJ.out; omega
                  have HRW : Hid (Prb.Row w7 q.Ap q.ps) := Hid.mk_ (HL.out.row.below BWb.out)
                  have ST := Hid.mk_ (Stp.tick (ps := q.ps) (dr := q.dr) VJ.out OWJ.out)
                  go_wp2_with (go_at_call 13; refine (tick1 w7 S5 g dj HD7 VJ hnow q.Ap q.np q.cp q.ps q.dr HRW (HL.out.noA HS5.out) (Hid.mk_ HL.out.pn) HL.out.pc HL.out.pmax (Hid.mk_ HL.out.dr) _ (Hid.mk_ rfl) _ (Hid.mk_ rfl)).mono ?_; rintro e w8 ⟨v8, T8, rfl, o8, t8⟩)
                  go_meet
                  exact ⟨(dTick q.ps q.dr dj).1, by rw [ST.out.left], Hid.mk_ t8.out.turn, Hid.mk_ (Nx.of ST.out (by rw [now_tick]; have := NJ.out; omega))⟩
        case rest =>
          obtain ⟨d2, rfl, DT2, NX⟩ := hcut
          obtain ⟨S9, D9, k9, r9⟩ := DT2.out
          have HD9 := Hid.mk_ D9
          have O9 := Hid.mk_ (OwnC_keep O7.out (fun k hk hlt => r9.block k hlt (fun h => NO7.out k hk h)))
          have DTN : Hid (DTurn w3 wc S3 g d2) := Hid.mk_ (DTurn.next R5.out K5.out B57.out DT2.out)
          have n78 : n7 ≤ 8 := N7.out.1
          have n7c : n7 ≤ c7 := N7.out.2.1
          have c7m : c7 ≤ 9223372036854775807 := N7.out.2.2
          have BWC : Hid (Below w.heap.size w wc) := Hid.mk_ (BWb.out.trans (r9.below BWb.out.size HS5.out))
          clear D9 k9 r9 DT2 O7 NO7 y0 M7 HL HD7
          go_wp2_with fail
          go_loopw [122] (fun ix wq => ∃ m : Nat, ix = .int .i64 (m : Int) ∧ m ≤ n7 ∧ Hid (Below wc.heap.size wc wq)) (fun ix _ => n7 - (intOf ix).toNat)
          case atStart => exact ⟨0, rfl, by omega, Hid.mk_ (Below.refl _ _)⟩
          case round =>
            obtain ⟨m, rfl, hm, BM⟩ := hrel
            by_cases hlt2 : m < n7
            · obtain ⟨x, hx⟩ : ∃ x, (lsC (fun k => !(dj.q k == 0)) dj.p dj.q 8)[m]? = some x := ⟨_, List.getElem?_eq_getElem (by have := O9.out.1; omega)⟩
              obtain ⟨bx, ox, eA, hbx, z0, z1, z2⟩ := O9.out.row m x hx
              obtain ⟨kx, hkx, ex⟩ := lsC_mem _ _ _ 8 x (List.mem_of_getElem? hx)
              subst eA
              replace z0 := keepC BM.out z0
              replace z1 := keepC BM.out z1
              replace z2 := keepC BM.out z2
              have HEX := Hid.mk_ ex
              have HKX := Hid.mk_ hkx
              clear hx hbx ex hkx
              have l2 : (m : Int) < (n7 : Int) := by omega
              have l3 : (0 : Int) ≤ (m : Int) := by omega
              go_upto_region 25 with fail
              have BX := Hid.mk_ (Rum.Box3.made wr x.n x.i x.h)
              have ax := (Below.refl wr.heap.size wr).alloc (Nat.le_refl _) (.cells #[.int .i64 x.n, .int .i64 x.i, .int .i64 x.h] 48)
              have BM2 := Hid.mk_ (BM.out.trans (ax.mono BM.out.size))
              have HDX := Hid.mk_ (HD9.out.below BM2.out)
              clear ax z0 z1 z2 BM
              generalize wr.alloc (.cells #[.int .i64 x.n, .int .i64 x.i, .int .i64 x.h] 48) = wy at *
              generalize wr.heap.size = zy at *
              obtain ⟨x0, x1, x2, _, _, _⟩ := BX.out
              obtain ⟨r, hr⟩ : ∃ r, r = Hth.cmpC (d2.p kx) (d2.q kx) x.i x.h := ⟨_, rfl⟩
              have hr0 : ¬ r < 0 := by
                rw [hr, HEX.out]
                exact cmp_neg (NX.out.vok kx HKX.out) (VJ.out kx HKX.out) (NX.out.up kx HKX.out)
              have HRR := Hid.mk_ hr
              have HVX : Hid ((.agg #[.int .i64 x.n, .int .i64 (d2.p kx), .int .i64 (d2.q kx)] : Value) = .agg #[.int .i64 (cOf d2 x.n).n, .int .i64 (cOf d2 x.n).i, .int .i64 (cOf d2 x.n).h]) := Hid.mk_ (by rw [show x.n = (kx : Int) by rw [HEX.out], cof_at d2 kx HKX.out])
              clear hr
              go_region_held3 (fun w' => w'.cell? ⟨zy, 0, none⟩ = some (.int .i64 x.n) ∧ w'.cell? ⟨zy, 1, none⟩ = some (.int .i64 x.i) ∧ w'.cell? ⟨zy, 2, none⟩ = some (.int .i64 x.h)) (first | exact ⟨by assumption, by assumption, by assumption⟩ | go_keep) (first
                | (go_at_call 14; refine (ofD wy.drew S9 g d2 x.n (by exact Hid.mk_ (HDX.out.below (Below.refl _ _).drew)) _ HVX).mono ?_; rintro e w9 ⟨rfl, b9⟩; have s0 := keepC b9 (by exact x0); have s1 := keepC b9 (by exact x1); have s2 := keepC b9 (by exact x2))
                | (go_at_call 23; refine (Hth.compare1 x.n (d2.p kx) (d2.q kx) x.n x.i x.h w9 r HRR).mono ?_; rintro e w10 ⟨rfl, b10⟩; have p0 := keepC b10 s0; have p1 := keepC b10 s1; have p2 := keepC b10 s2)
                | fail)
              have dry : Below wy.heap.size wy wy.drew := (Below.refl _ _).drew
              go_wp2_with fail
              go_roundw
              case rel => exact ⟨m + 1, by go_num, by omega, Hid.mk_ (((BM2.out.trans (dry.mono BM2.out.size)).trans (b9.mono (Nat.le_trans BM2.out.size dry.size))).trans (b10.mono (Nat.le_trans (Nat.le_trans BM2.out.size dry.size) b9.size)))⟩
              case measure => simp [intOf]; omega
            · obtain rfl : m = n7 := by omega
              have HDM := Hid.mk_ (HD9.out.below BM.out)
              have OW2 := Hid.mk_ NX.out.ow
              have HVS : Hid ((.agg #[.int .i64 (s : Int), .int .i64 (d2.p s), .int .i64 (d2.q s)] : Value) = .agg #[.int .i64 (cOf d2 (s : Int)).n, .int .i64 (cOf d2 (s : Int)).i, .int .i64 (cOf d2 (s : Int)).h]) := Hid.mk_ (by rw [cof_at d2 s hs])
              go_upto_region 29 with (go_at_call 14; refine (ofD wr S9 g d2 (s : Int) HDM _ HVS).mono ?_; rintro e w9 ⟨rfl, b9⟩)
              have BX := Hid.mk_ (Rum.Box3.made w9 (s : Int) (d2.p s) (d2.q s))
              have ax := (Below.refl w9.heap.size w9).alloc (Nat.le_refl _) (.cells #[.int .i64 (s : Int), .int .i64 (d2.p s), .int .i64 (d2.q s)] 48)
              have B9 := Hid.mk_ (b9.trans (ax.mono b9.size))
              have HDN := Hid.mk_ (HDM.out.below B9.out)
              have LZ := Hid.mk_ BX.out.lt
              clear ax b9
              generalize w9.alloc (.cells #[.int .i64 (s : Int), .int .i64 (d2.p s), .int .i64 (d2.q s)] 48) = wy at *
              generalize w9.heap.size = zy at *
              obtain ⟨x0, x1, x2, _, _, _⟩ := BX.out
              have c1 : Hid (wy.cell? ⟨g, 1, none⟩ = some (.int .i64 d2.inc)) := Hid.mk_ (det_c1 HDN.out).1
              have lg : Hid (g < wy.heap.size) := Hid.mk_ (det_c1 HDN.out).2.2
              have lz2 := LZ.out
              have ni : ¬ d2.inc < dj.inc := by have := NX.out.inc; omega
              have nib : decide (d2.inc < dj.inc) = false := by simp; have := NX.out.inc; omega
              cases hl : d2.left with
              | false =>
                have hh := OW2.out.here hl
                rw [hh.1] at x2
                rw [hh.2] at x1
                clear hh
                refine wp_draws _ (Below.refl _ _) (by kernel_rfl) (by kernel_rfl) (fun hne hN => ?_)
                repeat (go_big_quiet_step (first
                  | (go_at_call 15; with_reducible exact After.calls (inc0c _ g d2.inc (Hid.mk_ ((hN _ g 1 lg.out).trans c1.out))))
                  | fail))
                refine wpQuiet_nil (after_cells ?_)
                intro wz bz hcz
                clear hne hN hcz x0 x1 x2
                go_wp2_with fail
                go_roundw
                case rel => exact ⟨j + 1, d2, by rw [hl], by go_num, by omega, Hid.mk_ (by have := NX.out.now; omega), Hid.mk_ NX.out.vok, OW2, Hid.mk_ (DTN.out.then_below ((BM.out.trans (B9.out.mono BM.out.size)).trans (bz.mono (Nat.le_trans BM.out.size B9.out.size))))⟩
                case measure => simp [intOf]; omega
              | true =>
                have hh := OW2.out.gone hl
                rw [hh] at x2
                clear hh
                refine wp_draws _ (Below.refl _ _) (by kernel_rfl) (by kernel_rfl) (fun hne hN => ?_)
                repeat (go_big_quiet_step (first
                  | (go_at_call 15; with_reducible exact After.calls (inc0c _ g d2.inc (Hid.mk_ ((hN _ g 1 lg.out).trans c1.out))))
                  | fail))
                refine wpQuiet_nil (after_cells ?_)
                intro wz bz hcz
                clear hne hN hcz x0 x1 x2
                go_wp2_with fail
                go_roundw
                case rel => exact ⟨j + 1, d2, by rw [hl], by go_num, by omega, Hid.mk_ (by have := NX.out.now; omega), Hid.mk_ NX.out.vok, OW2, Hid.mk_ (DTN.out.then_below ((BM.out.trans (B9.out.mono BM.out.size)).trans (bz.mono (Nat.le_trans BM.out.size B9.out.size))))⟩
                case measure => simp [intOf]; omega
      · obtain rfl : j = n := by omega
        go_wp2_with (go_at_call 11; refine (awake _).mono ?_; rintro e w9 ⟨rfl, b9⟩)
        go_ret
        exact ⟨rfl, BW.out.trans (b9.mono BW.out.size)⟩
set_option maxRecDepth 100000 in
set_option maxHeartbeats 4000000 in
theorem no_law (w : World) (self i : Int) (A : Option Addr) (n c : Nat) (qs : List Qc) (hq : Hid (QsAt w A qs)) (hn : Hid (n = qs.length)) (hc : n ≤ c) (hcc : c ≤ 9223372036854775807) (hbad : ¬ (0 ≤ self ∧ self < 8 ∧ 0 ≤ i ∧ i ≤ 1000000)) : Calls Try.prog 7 #[.int .i64 self, .int .i64 i, .slice A n c] w fun e w' => e = .returned (.bool true) ∧ Below w.heap.size w w' := by
  have HL := Hid.mk_ (light1 w A n c qs hq hn hc hcc)
  have HBAD := Hid.mk_ hbad
  clear hbad
  go_enter Try.func7, Try.ntmps7
  go_wp2_with fail
  refine HL.out.mono ?_
  rintro e w1 ⟨b, rfl, hb, b1⟩
  clear hb HL
  cases b with
  | false =>
    go_wp2_with (go_at_call 11; refine (awake _).mono ?_; rintro e w2 ⟨rfl, b2⟩)
    go_ret
    exact ⟨rfl, b1.trans (b2.mono b1.size)⟩
  | true =>
    cases hnb : Hth.nodeB self with
    | false =>
      have NB := Hid.mk_ hnb.symm
      clear hnb
      go_wp2_with (first
        | (go_at_call 20; refine (node20 self w1 false NB).mono ?_; rintro e w2 ⟨rfl, e2⟩; have e3 := e2.symm; subst e3)
        | (go_at_call 11; refine (awake _).mono ?_; rintro e w2 ⟨rfl, b2⟩))
      go_ret
      exact ⟨rfl, b1.trans (b2.mono b1.size)⟩
    | true =>
      have NB := Hid.mk_ hnb.symm
      have hs : 0 ≤ self ∧ self < 8 := by unfold Hth.nodeB at hnb; simpa using hnb
      by_cases i0 : i < 0
      · clear hnb hs
        go_wp2_with (first
          | (go_at_call 20; refine (node20 self w1 true NB).mono ?_; rintro e w2 ⟨rfl, e2⟩; have e3 := e2.symm; subst e3)
          | (go_at_call 11; refine (awake _).mono ?_; rintro e w2 ⟨rfl, b2⟩))
        go_ret
        exact ⟨rfl, b1.trans (b2.mono b1.size)⟩
      · have i1 : 1000000 < i := by have := HBAD.out; omega
        clear hnb hs
        go_wp2_with (first
          | (go_at_call 20; refine (node20 self w1 true NB).mono ?_; rintro e w2 ⟨rfl, e2⟩; have e3 := e2.symm; subst e3)
          | (go_at_call 11; refine (awake _).mono ?_; rintro e w2 ⟨rfl, b2⟩))
        go_ret
        exact ⟨rfl, b1.trans (b2.mono b1.size)⟩
theorem walk (w : World) (a0 : Int) (h0 : (Lit.int .i64 a0).wf = true) (a1 : Int) (h1 : (Lit.int .i64 a1).wf = true) (A : Option Addr) (n c : Nat) (h : RD w (.slice sh2) [.slice A n c]) : Calls Try.prog 7 #[.int .i64 a0, .int .i64 a1, .slice A n c] w fun e w' => e = .returned (.bool true) ∧ Below w.heap.size w w' := by
  obtain ⟨qs, g1, g2, g3, g4⟩ := rd_calls h
  have g5 : c ≤ 9223372036854775807 := by unfold maxLen at g4; omega
  by_cases hb : 0 ≤ a0 ∧ a0 < 8 ∧ 0 ≤ a1 ∧ a1 ≤ 1000000
  · have e : ((a0.toNat : Nat) : Int) = a0 := by omega
    have := law w a0.toNat a1 (by omega) (Hid.mk_ hb.2.2) A n c qs (Hid.mk_ g2) (Hid.mk_ g1.symm) g3 g5
    rw [e] at this
    exact this
  · exact no_law w a0 a1 A n c qs (Hid.mk_ g2) (Hid.mk_ g1.symm) g3 g5 hb
end Go.Proofs.Ythndjhocmpelcaa.WSwimRises
