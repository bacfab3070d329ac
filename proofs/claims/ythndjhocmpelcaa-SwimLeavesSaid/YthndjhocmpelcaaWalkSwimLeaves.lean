/- SwimLeaves: the walk of the law: who has left sends nothing, counts its ticks, hears. No condition. -/
import Derived.Test.YthndjhocmpelcaaLb
namespace Go.Proofs.Ythndjhocmpelcaa.WSwimLeaves
open Go.RowKit Kit Tri3 Swi
set_option linter.unusedVariables false
@[reducible] def sh0 : Sh := shCall
theorem cof2 {d : Dt} (h : d.q 2 = 4) : (cOf d 2).h = 4 := h
theorem d0_facts : (dLeave (dNew 2 1)).left = true ∧ (dLeave (dNew 2 1)).now = 0 ∧ (dLeave (dNew 2 1)).q 2 = 4 := ⟨rfl, rfl, by kernel_rfl⟩
theorem e_facts : (cOf (dHear (dHear (dNew 0 1) ⟨2, 1, 4⟩) ⟨2, 9, 1⟩) 2).h = 4 := by kernel_rfl
set_option maxRecDepth 100000 in
set_option maxHeartbeats 16000000 in
theorem law (w : World) (A : Option Addr) (n c : Nat) (qs : List Qc) (hq : Hid (QsAt w A qs)) (hn : Hid (n = qs.length)) (hc : n ≤ c) (hcc : c ≤ 9223372036854775807) : Calls Try.prog 6 #[.slice A n c] w fun e w' => e = .returned (.bool true) ∧ Below w.heap.size w w' := by
  have h22 : Hid ((0 : Int) ≤ 2 ∧ (2 : Int) ≤ 7) := Hid.mk_ (by decide)
  have h01 : Hid ((0 : Int) ≤ 1 ∧ (1 : Int) ≤ 1000000) := Hid.mk_ (by decide)
  have h00 : Hid ((0 : Int) ≤ 0 ∧ (0 : Int) ≤ 7) := Hid.mk_ (by decide)
  have fl2 := fld2
  have HL := Hid.mk_ (light1 w A n c qs hq hn hc hcc)
  go_enter Try.func6, Try.ntmps6
  go_wp2_with fail
  refine HL.out.mono ?_
  rintro e w1 ⟨b, rfl, hb, b1⟩
  have B1 := Hid.mk_ b1
  clear b1 HL
  cases b with
  | false =>
    go_wp2_with (go_at_call 11; refine (awake _).mono ?_; rintro e w2 ⟨rfl, b2⟩)
    go_ret
    exact ⟨rfl, B1.out.trans (b2.mono B1.out.size)⟩
  | true =>
    have n80 : n ≤ 80 := hb.out rfl
    clear hb
    obtain ⟨d, hd⟩ : ∃ d, d = dLeave (dNew 2 1) := ⟨_, rfl⟩
    have HD := Hid.mk_ hd
    have FD : Hid (d.left = true ∧ d.now = 0 ∧ d.q 2 = 4 ∧ Vok d) := Hid.mk_ (by rw [hd]; exact ⟨d0_facts.1, d0_facts.2.1, d0_facts.2.2, (Vok.new 2 1).leave⟩)
    have HV : Hid ((.agg #[.int .i64 2, .int .i64 1, .int .i64 4] : Value) = .agg #[.int .i64 (dNew 2 1).self, .int .i64 (dNew 2 1).inc, .int .i64 4]) := Hid.mk_ rfl
    clear hd
    go_upto_region 5 with (first
      | (go_at_call 9; refine (newD w1 2 1 h22 h01).mono ?_; rintro e w2 ⟨g, S, rfl, D2, HS, b2⟩)
      | (go_at_call 17; refine (leave1 w2 S g (dNew 2 1) D2 d HD _ HV).mono ?_; rintro e w3 ⟨rfl, t3⟩))
    obtain ⟨S3, D3, k3, r3⟩ := t3.out
    have al := (Below.refl w3.heap.size w3).alloc (Nat.le_refl _) (.cells #[.int .i64 2, .int .i64 1, .int .i64 4] 48)
    have BX := Hid.mk_ (Rum.Box3.made w3 2 1 4)
    have D4 := Hid.mk_ (D3.below al)
    have B3 : Below w.heap.size w w3 := (B1.out.trans (b2.mono B1.out.size)).trans (r3.below (Nat.le_trans B1.out.size b2.size) (fun k hk => Nat.le_trans B1.out.size (HS.out k hk)))
    have B4 := Hid.mk_ (B3.trans (al.mono B3.size))
    have HS3 : Hid (∀ k, S3 k → w.heap.size ≤ k) := Hid.mk_ (fun k hk => (k3 k hk).elim (fun h => Nat.le_trans B1.out.size (HS.out k h)) (fun h => Nat.le_trans (Nat.le_trans B1.out.size b2.size) h))
    have NZ : Hid (¬ S3 w3.heap.size) := Hid.mk_ (fun h => by have := D3.blk _ h; omega)
    clear D3 k3 r3 al t3 B3 D2 HS b2
    generalize w3.alloc (.cells #[.int .i64 2, .int .i64 1, .int .i64 4] 48) = w4 at *
    generalize w3.heap.size = zc at *
    have N0 : Hid ((0 : Int) = d.now) := Hid.mk_ FD.out.2.1.symm
    go_wp2_with (go_at_call 18; refine (now0 w4 S3 g d D4 0 N0).mono ?_; rintro e w5 ⟨rfl, e5⟩; have e6 := e5.symm; subst e6)
    go_loopw [5, 20] (fun m i wr => ∃ (j k : Nat) (dj : Dt), i = .int .i64 (j : Int) ∧ m = .int .i64 (k : Int) ∧ j ≤ n ∧ k ≤ j ∧ Hid (dj.left = true ∧ dj.now = (k : Int) ∧ dj.q 2 = 4 ∧ Vok dj) ∧ Hid (DTurn w4 wr S3 g dj)) (fun _ i _ => n - (intOf i).toNat)
    case atStart => exact ⟨0, 0, d, rfl, rfl, by omega, by omega, FD, Hid.mk_ (DTurn.of_below D4.out (Below.refl _ _))⟩
    case round =>
      obtain ⟨j, k, dj, rfl, rfl, hj, hk, FJ, DT⟩ := hrel
      obtain ⟨S5, D5, k5, r5⟩ := DT.out
      have HD5 := Hid.mk_ D5
      have K5 := Hid.mk_ k5
      have R5 := Hid.mk_ r5
      have BW := Hid.mk_ (B4.out.trans (r5.below B4.out.size HS3.out))
      have HS5 : Hid (∀ i, S5 i → w.heap.size ≤ i) := Hid.mk_ (fun i hi => (k5 i hi).elim (HS3.out i) (fun h => Nat.le_trans B4.out.size h))
      clear D5 k5 r5 DT
      by_cases hlt : j < n
      · obtain ⟨q, hqj⟩ : ∃ q, qs[j]? = some q := ⟨_, List.getElem?_eq_getElem (by have := hn.out; omega)⟩
        obtain ⟨b, off, es, rfl, hb, hr, hl⟩ := hq.out j q hqj
        have HL := Hid.mk_ hl
        have HR : Hid (wr.rangeAt b (off + j * 68) es) := Hid.mk_ (range_keep hr (fun h => BW.out.block b h))
        clear hqj hb hr hl
        have l1 : (j : Int) < (n : Int) := by omega
        have l0 : (0 : Int) ≤ (j : Int) := by omega
        have CB := Hid.mk_ (call_box wr es)
        have ZZ := Hid.mk_ (heap_alloc_new wr (.cells Try.zeroCells58 58))
        go_upto_region 9 with (first
          | (refine wpList_load_mid rfl 58 _ rfl b (off + j * 68) rfl es _ HR.out Try.underlying58 rfl (call_size2 HL.out) ?_)
          | (refine wpList_store_row rfl 58 _ _ rfl wr.heap.size es.toArray rfl rfl 58 _ ZZ.out (call_size HL.out) (call_size3 HL.out) (call_one HL.out) ?_))
        have BB := Hid.mk_ CB.out.2
        have M0 := Hid.mk_ CB.out.1
        have HDb := Hid.mk_ (HD5.out.below BB.out)
        have BWb := Hid.mk_ (BW.out.trans (BB.out.mono BW.out.size))
        clear ZZ CB HD5
        generalize (wr.alloc (.cells Try.zeroCells58 58)).setRow wr.heap.size es.toArray = wb at *
        generalize wr.heap.size = z at M0 ⊢
        have y0 : wb.cell? ⟨z, 0, none⟩ = some (.int .i64 q.d) := rowe M0.out HL.out.e0
        have y1 : wb.cell? ⟨z, 1, none⟩ = some (.int .i64 q.c.n) := rowe M0.out HL.out.e1
        have y2 : wb.cell? ⟨z, 2, none⟩ = some (.int .i64 q.c.i) := rowe M0.out HL.out.e2
        have y3 : wb.cell? ⟨z, 3, none⟩ = some (.int .i64 q.c.h) := rowe M0.out HL.out.e3
        have y66 : wb.cell? ⟨z, 66, none⟩ = some (.slice q.Ap q.np q.cp) := rowe M0.out HL.out.e66
        have y67 : wb.cell? ⟨z, 67, none⟩ = some (.int .u64 q.dr) := rowe M0.out HL.out.e67
        by_cases c0 : q.d = 0
        · have b0 : (q.d == 0) = true := by simp [c0]
          clear c0
          go_wp2_with (go_at_call 12; refine (hear1 wb S5 g dj q.c HDb _ (Hid.mk_ rfl) _ (Hid.mk_ rfl)).mono ?_; rintro e w7 ⟨rfl, t7⟩)
          go_roundw
          case rel => exact ⟨j + 1, k, dHear dj q.c, by go_num, rfl, by omega, by omega, Hid.mk_ ⟨(hear_kp dj q.c).left.trans FJ.out.1, (hear_kp dj q.c).now.trans FJ.out.2.1, left_hear FJ.out.2.2.1 q.c, FJ.out.2.2.2.hear q.c⟩, Hid.mk_ (DTurn.next R5.out K5.out BB.out t7.out)⟩
          case measure => simp [intOf]; omega
        · have b0 : (q.d == 0) = false := by simp [c0]
          by_cases c1 : q.d = 1
          · have b1 : (q.d == 1) = true := by simp [c1]
            clear c0 c1
            have HLV : Hid (dj = dLeave dj) := Hid.mk_ (leave_same FJ.out.1).symm
            go_wp2_with (go_at_call 17; refine (leave1 wb S5 g dj HDb dj HLV _ (Hid.mk_ rfl)).mono ?_; rintro e w7 ⟨rfl, t7⟩)
            go_roundw
            case rel => exact ⟨j + 1, k, dj, by go_num, rfl, by omega, by omega, FJ, Hid.mk_ (DTurn.next R5.out K5.out BB.out t7.out)⟩
            case measure => simp [intOf]; omega
          · have b1 : (q.d == 1) = false := by simp [c1]
            have FH := Hid.mk_ (handle_left FJ.out.1 q.k q.f q.t q.s q.fo q.ab q.ls)
            have HMS : Hid ([] = oHandle dj q.k q.f q.t q.s q.fo q.ab q.ls) := Hid.mk_ FH.out.1.symm
            have HVJ : Hid (Vok dj) := Hid.mk_ FJ.out.2.2.2
            have HCL : Hid (ClAt wb q.P q.ls) := Hid.mk_ (HL.out.cl.keep BWb.out)
            have HMC := Hid.mk_ HL.out.msg
            by_cases c2 : q.d = 2
            · have b2 : (q.d == 2) = true := by simp [c2]
              clear c0 c1 c2
              go_wp2_with (first
                | (refine wpList_load_mid rfl 42 _ rfl z 4 rfl _ _ (rowe_msg M0.out) Try.underlying42 rfl (range_len HL.out.len) ?_)
                | (go_at_call 10; refine (handle1 wb S5 g dj _ q.k q.f q.t q.s q.fo q.ab q.P q.n q.cc q.ls HDb HVJ HMC HCL (HL.out.noS HS5.out) (Hid.mk_ HL.out.ln) HL.out.nc HL.out.max _ (Hid.mk_ rfl) [] HMS).mono ?_; rintro e w7 ⟨v7, T7, rfl, o7, t7⟩; obtain ⟨A7, c7, e7, _, _⟩ := o7.out.form; have e8 : v7 = .slice A7 0 c7 := e7; subst e8))
              go_roundw
              case rel => exact ⟨j + 1, k, dHandle dj q.k q.f q.t q.s q.fo q.ab q.ls, by go_num, rfl, by omega, by omega, Hid.mk_ ⟨FH.out.2.1, FH.out.2.2.trans FJ.out.2.1, left_handle FJ.out.2.2.1 _ _ _ _ _ _ _, HVJ.out.handle _ _ _ _ _ _ _⟩, Hid.mk_ (DTurn.next R5.out K5.out BB.out t7.out.turn)⟩
              case measure => simp [intOf]; omega
            · have b2 : (q.d == 2) = false := by simp [c2]
              by_cases c3 : q.d = 3
              · have b3 : (q.d == 3) = true := by simp [c3]
                clear c0 c1 c2 c3
                go_wp2_with (first
                  | (refine wpList_load_mid rfl 42 _ rfl z 4 rfl _ _ (rowe_msg M0.out) Try.underlying42 rfl (range_len HL.out.len) ?_)
                  | (go_at_call 10; refine (handle1 wb S5 g dj _ q.k q.f q.t q.s q.fo q.ab q.P q.n q.cc q.ls HDb HVJ HMC HCL (HL.out.noS HS5.out) (Hid.mk_ HL.out.ln) HL.out.nc HL.out.max _ (Hid.mk_ rfl) [] HMS).mono ?_; rintro e w7 ⟨v7, T7, rfl, o7, t7⟩; obtain ⟨A7, c7, e7, _, _⟩ := o7.out.form; have e8 : v7 = .slice A7 0 c7 := e7; subst e8))
                go_roundw
                case rel => exact ⟨j + 1, k, dHandle dj q.k q.f q.t q.s q.fo q.ab q.ls, by go_num, rfl, by omega, by omega, Hid.mk_ ⟨FH.out.2.1, FH.out.2.2.trans FJ.out.2.1, left_handle FJ.out.2.2.1 _ _ _ _ _ _ _, HVJ.out.handle _ _ _ _ _ _ _⟩, Hid.mk_ (DTurn.next R5.out K5.out BB.out t7.out.turn)⟩
                case measure => simp [intOf]; omega
              · have b3 : (q.d == 3) = false := by simp [c3]
                clear c0 c1 c2 c3
                have hnow : dj.now < 1000000 := by rw [FJ.out.2.1]; omega
                have HRW : Hid (Prb.Row wb q.Ap q.ps) := Hid.mk_ (HL.out.row.below BWb.out)
                have HTD : Hid (d1 dj = (dTick q.ps q.dr dj).1) := Hid.mk_ (by rw [tick_leftD FJ.out.1])
                have HTM : Hid ([] = (dTick q.ps q.dr dj).2) := Hid.mk_ (by rw [tick_leftD FJ.out.1])
                have hkw : wrap64 ((k : Int) + 1) = ((k + 1 : Nat) : Int) := by unfold wrap64; omega
                go_wp2_with (go_at_call 13; refine (tick1 wb S5 g dj HDb HVJ hnow q.Ap q.np q.cp q.ps q.dr HRW (HL.out.noA HS5.out) (Hid.mk_ HL.out.pn) HL.out.pc HL.out.pmax (Hid.mk_ HL.out.dr) (d1 dj) HTD [] HTM).mono ?_; rintro e w7 ⟨v7, T7, rfl, o7, t7⟩; obtain ⟨A7, c7, e7, _, _⟩ := o7.out.form; have e8 : v7 = .slice A7 0 c7 := e7; subst e8)
                go_roundw
                case rel => exact ⟨j + 1, k + 1, d1 dj, by go_num, rfl, by omega, by omega, Hid.mk_ ⟨FJ.out.1, by show dj.now + 1 = _; rw [FJ.out.2.1]; omega, FJ.out.2.2.1, HVJ.out.of rfl rfl⟩, Hid.mk_ (DTurn.next R5.out K5.out BB.out t7.out.turn)⟩
                case measure => simp [intOf]; omega
      · obtain rfl : j = n := by omega
        have HX := Hid.mk_ (box3w BX.out R5.out NZ.out)
        have HNJ : Hid ((k : Int) = dj.now) := Hid.mk_ FJ.out.2.1.symm
        have cq := cof2 FJ.out.2.2.1
        have ce := e_facts
        have MY : Hid (true = Hth.mayC 2 1 4) := Hid.mk_ (by decide)
        have NY : Hid (true = Hth.nodeB 2) := Hid.mk_ (by decide)
        go_wp2_with (first
          | (go_at_call 9; refine (newD wr 0 1 h00 h01).mono ?_; rintro e w7 ⟨ge, Se, rfl, De, HSe, b7⟩; have HX7 := box3k HX.out b7; have x0 := HX7.c0; have x1 := HX7.c1; have x2 := HX7.c2)
          | (go_at_call 12; refine (hear1 w8 Se2 ge (dHear (dNew 0 1) ⟨2, 1, 4⟩) ⟨2, 9, 1⟩ HDe2 _ (Hid.mk_ rfl) _ (Hid.mk_ rfl)).mono ?_; rintro e w9 ⟨rfl, t9⟩; obtain ⟨Se3, De3, k9, r9⟩ := t9.out; have HDe3 := Hid.mk_ De3; have b9 := b8.trans (r9.below b8.size HSe2.out); have HDj9 := Hid.mk_ (HD5.out.below b9))
          | (go_at_call 12; refine (hear1 w7 Se ge (dNew 0 1) ⟨2, 1, 4⟩ De _ (Hid.mk_ rfl) _ (Hid.mk_ rfl)).mono ?_; rintro e w8 ⟨rfl, t8⟩; obtain ⟨Se2, De2, k8, r8⟩ := t8.out; have HDe2 := Hid.mk_ De2; have b8 := b7.trans (r8.below b7.size HSe.out); have HSe2 : Hid (∀ i, Se2 i → wr.heap.size ≤ i) := Hid.mk_ (fun i hi => (k8 i hi).elim (HSe.out i) (fun h => Nat.le_trans b7.size h)))
          | (go_at_call 18; refine (now0 w9 S5 g dj HDj9 (k : Int) HNJ).mono ?_; rintro e w10 ⟨rfl, e10⟩; have e11 := e10.symm; subst e11)
          | (go_at_call 14; refine (ofD w10 Se3 ge (dHear (dHear (dNew 0 1) ⟨2, 1, 4⟩) ⟨2, 9, 1⟩) 2 HDe10 _ (Hid.mk_ rfl)).mono ?_; rintro e w11 ⟨rfl, b11⟩; have c11 := b10.trans (b11.mono b10.size); have HX11 := box3k HX.out c11; have z0 := HX11.c0; have z1 := HX11.c1; have z2 := HX11.c2)
          | (go_at_call 14; refine (ofD w9 S5 g dj 2 HDj9 _ (Hid.mk_ rfl)).mono ?_; rintro e w10 ⟨rfl, b10x⟩; have b10 := b9.trans (b10x.mono b9.size); have HDe10 := Hid.mk_ (HDe3.out.below b10x))
          | (go_at_call 19; refine (Hth.may1 _ _ _ w11 true MY).mono ?_; rintro e w12 ⟨rfl, b12⟩; have u0 := keepC b12 z0)
          | (go_at_call 20; refine (node20 2 w12 true NY).mono ?_; rintro e w13 ⟨rfl, e13⟩; have e14 := e13.symm; subst e14)
          | (go_at_call 11; refine (awake _).mono ?_; rintro e w14 ⟨rfl, b14⟩))
        go_ret
        have d11 := BW.out.trans (c11.mono BW.out.size)
        have d12 := d11.trans (b12.mono d11.size)
        exact ⟨rfl, d12.trans (b14.mono d12.size)⟩
theorem walk (w : World) (A : Option Addr) (n c : Nat) (h : RD w (.slice sh0) [.slice A n c]) : Calls Try.prog 6 #[.slice A n c] w fun e w' => e = .returned (.bool true) ∧ Below w.heap.size w w' := by
  obtain ⟨qs, h1, h2, h3, h4⟩ := rd_calls h
  exact law w A n c qs (Hid.mk_ h2) (Hid.mk_ h1.symm) h3 (by unfold maxLen at h4; omega)
end Go.Proofs.Ythndjhocmpelcaa.WSwimLeaves
