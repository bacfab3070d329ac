/- RumorPlays: the walk of the law: any claims, any takings: each answer, what is there. Condition: the row lies in memory. -/
import Derived.Test.YtoikadgfbjjfiaaRpT
namespace Go.Proofs.Ytoikadgfbjjfiaa.WRumorPlays
open Go.RowKit Kit Rum Tri3
set_option linter.unusedVariables false
theorem keep1 {w w' : World} {q o : Nat} {v : Value} (hb : Below w.heap.size w w') (h : w.cell? ⟨q, o, none⟩ = some v) : w'.cell? ⟨q, o, none⟩ = some v :=
  (hb.cell (p := ⟨q, o, none⟩) (World.block_lt_of_cell? w _ h)).trans h
set_option maxRecDepth 100000 in
set_option maxHeartbeats 8000000 in
theorem law (a : Int) (A : Option Addr) (n c : Nat) (ls : List Fv) (w : World) (hA : Hid (FvAt w A ls)) (hn : Hid (n = ls.length)) (hm : n ≤ 9223372036854775807) (hc : n ≤ c) :
    Calls Try.prog 9 #[.int .i64 a, .slice A n c] w fun e w' => e = .returned (.bool true) ∧ Below w.heap.size w w' := by
  obtain ⟨o, ho⟩ : ∃ o, o = ofn a := ⟨_, rfl⟩
  have HO := Hid.mk_ ho
  clear ho
  go_enter Try.func9, Try.ntmps9
  go_upto_region 2 with (first
    | (go_at_call 27; refine (new0 _ a o HO).mono ?_; rintro e w1 ⟨ga, rfl, h1, hga, b1⟩)
    | (go_at_call 28; refine (rnew0 _ a o HO).mono ?_; rintro e w2 ⟨gr, rfl, h2, hgr, b2⟩))
  have T2 := Hid.mk_ (duo0 (z := 0) h1.out b2 h2.out hgr.out)
  have B2 := Hid.mk_ (b1.trans (b2.mono b1.size))
  have HG : Hid (w.heap.size ≤ ga ∧ w.heap.size ≤ gr) := Hid.mk_ ⟨hga.out, Nat.le_trans b1.size hgr.out⟩
  clear h1 h2 hga hgr b1 b2
  go_wp2_with fail
  go_loopw [22] (fun z wr => ∃ (k : Nat) (A' K' : Option Addr) (L R : List Tld), z = .int .i64 (k : Int) ∧ k ≤ n ∧ Hid (Duo wr ga o A' L gr K' R) ∧ Hid (Below w.heap.size w wr)) (fun z _ => n - (intOf z).toNat)
  case atStart => exact ⟨0, none, none, [], [], rfl, by omega, T2, B2⟩
  case round =>
    clear T2 B2
    obtain ⟨k, A', K', L, R, rfl, hk, T, BW⟩ := hrel
    by_cases hlt : k < n
    · obtain ⟨x, hx⟩ : ∃ x, ls[k]? = some x := ⟨_, List.getElem?_eq_getElem (by have := hn.out; omega)⟩
      obtain ⟨b, off, rfl, bl, c0, c1, c2, c3, c4⟩ := hA.out k x hx
      replace c0 := keep1 BW.out c0
      replace c1 := keep1 BW.out c1
      replace c2 := keep1 BW.out c2
      replace c3 := keep1 BW.out c3
      replace c4 := keep1 BW.out c4
      clear hx bl
      have l1 : (k : Int) < (n : Int) := by omega
      have l0 : (0 : Int) ≤ (k : Int) := by omega
      go_upto_region 7 with fail
      have x0 : (wr.alloc (.cells #[.int .i64 x.d, .int .i64 x.n, .int .i64 x.c.n, .int .i64 x.c.i, .int .i64 x.c.h] 55)).cell? ⟨wr.heap.size, 0, none⟩ = some (.int .i64 x.d) := by rw [World.cell?_alloc_new]; rfl
      have x1 : (wr.alloc (.cells #[.int .i64 x.d, .int .i64 x.n, .int .i64 x.c.n, .int .i64 x.c.i, .int .i64 x.c.h] 55)).cell? ⟨wr.heap.size, 1, none⟩ = some (.int .i64 x.n) := by rw [World.cell?_alloc_new]; rfl
      have x2 : (wr.alloc (.cells #[.int .i64 x.d, .int .i64 x.n, .int .i64 x.c.n, .int .i64 x.c.i, .int .i64 x.c.h] 55)).cell? ⟨wr.heap.size, 2, none⟩ = some (.int .i64 x.c.n) := by rw [World.cell?_alloc_new]; rfl
      have x3 : (wr.alloc (.cells #[.int .i64 x.d, .int .i64 x.n, .int .i64 x.c.n, .int .i64 x.c.i, .int .i64 x.c.h] 55)).cell? ⟨wr.heap.size, 3, none⟩ = some (.int .i64 x.c.i) := by rw [World.cell?_alloc_new]; rfl
      have x4 : (wr.alloc (.cells #[.int .i64 x.d, .int .i64 x.n, .int .i64 x.c.n, .int .i64 x.c.i, .int .i64 x.c.h] 55)).cell? ⟨wr.heap.size, 4, none⟩ = some (.int .i64 x.c.h) := by rw [World.cell?_alloc_new]; rfl
      have al : Below wr.heap.size wr (wr.alloc (.cells #[.int .i64 x.d, .int .i64 x.n, .int .i64 x.c.n, .int .i64 x.c.i, .int .i64 x.c.h] 55)) := (Below.refl _ _).alloc (Nat.le_refl _) _
      obtain ⟨q, hq⟩ : ∃ q, q = wr.heap.size := ⟨_, rfl⟩
      have NA : Hid (¬ Its ga A' q) := Hid.mk_ (fun h => by have := T.out.a.its q h; omega)
      have NB : Hid (¬ Its gr K' q) := Hid.mk_ (fun h => by have := (T.out.r.its q h).2; omega)
      have T3 := Hid.mk_ (T.out.below al)
      have B3 := Hid.mk_ (BW.out.trans (al.mono BW.out.size))
      have ST := Hid.mk_ T.out.a.st
      have LT := Hid.mk_ T.out.a.lt
      have OB : Hid (o ≤ 20) := Hid.mk_ T.out.a.ob.2
      rw [← hq] at x0 x1 x2 x3 x4 ⊢
      clear c0 c1 c2 c3 c4 T BW al hq
      generalize wr.alloc (.cells #[.int .i64 x.d, .int .i64 x.n, .int .i64 x.c.n, .int .i64 x.c.i, .int .i64 x.c.h] 55) = wx at *
      clear wr
      by_cases h100 : (100 : Int) ≤ (k : Int)
      · go_wp2_with (go_at_call 37; refine (awake _).mono ?_; rintro e w5 ⟨rfl, b5⟩)
        go_ret
        exact ⟨rfl, B3.out.trans (b5.mono B3.out.size)⟩
      · have dx : Below wx.heap.size wx wx.drew := (Below.refl _ _).drew
        have TD := Hid.mk_ (T3.out.below dx)
        by_cases hd0 : x.d = 0
        · have e0 : (x.d == 0) = true := by simp [hd0]
          obtain ⟨m, hm⟩ : ∃ m, m = many x.n L.length := ⟨_, rfl⟩
          obtain ⟨M, hM⟩ : ∃ M, M = tookQ o m L := ⟨_, rfl⟩
          have HMM := Hid.mk_ hM
          have HM := Hid.mk_ hm
          clear hm hM
          go_upto_region 9 with fail
          go_region_held3 (fun w' => w'.cell? ⟨q, 1, none⟩ = some (.int .i64 x.n)) (first | assumption | go_keep) (first
            | (go_at_call 30; refine (take0 wx.drew ga o A' L x.n (by exact Hid.mk_ TD.out.a) m HM).mono ?_; rintro e w4 ⟨B4, n4, c4, rfl, o4, e4, T4⟩; have s41 := (Turn.wr T4.out).cell (by exact x1) NA.out)
            | (go_at_call 31; refine (rtake w4 gr o K' R L x.n (Hid.mk_ (TD.out.rkeep T4.out)) (Hid.mk_ TD.out.p) ST LT OB m HM).mono ?_; rintro e w5' ⟨B5, n5, c5, rfl, o5, e5, S, p5, T5'⟩; have s51' := (RTurn.wr T5'.out).cell s41 NB.out)
            | (go_at_call 29; refine (same0 w5' (toldQ m L) B4 B5 n4 c4 n5 c5 (Hid.mk_ (o4.out.keepW (RTurn.wr T5'.out) (fun k hk => (TD.out.r.its k hk).2)).row) (Hid.mk_ o5.out.row) (Hid.mk_ o4.out.1) (Hid.mk_ (e5.out.trans e4.out.symm)) o4.out.bounds.1 o4.out.bounds.2 o5.out.bounds.1 o5.out.bounds.2).mono ?_; rintro e w5 ⟨rfl, b5⟩; have s51 := keep1 b5 s51')
            | fail)
          have B5 : Hid (Below w.heap.size w w5) := Hid.mk_ (by
            have z1 := B3.out.trans (dx.mono B3.out.size)
            have z2 := z1.trans ((Turn.wr T4.out).below (B := w.heap.size) (Nat.le_trans B3.out.size dx.size) (fun k hk => Nat.le_trans HG.out.1 (TD.out.a.ge k hk)))
            have z3 := z2.trans ((RTurn.wr T5'.out).below (B := w.heap.size) z2.size (fun k hk => Nat.le_trans HG.out.2 (TD.out.r.its k hk).1))
            exact z3.trans (b5.mono z3.size))
          obtain ⟨A5, K5, t5⟩ := TD.out.both T4.out T5'.out p5.out
          rw [← HMM.out] at t5
          have T5 := Hid.mk_ (t5.below b5)
          clear x0 x1 x2 x3 x4 T3 TD T4 T5' t5 B3 s41 s51' s51 b5 NA NB o4 o5 e4 e5 p5 HM HMM dx
          obtain ⟨r0, hr0⟩ : ∃ r0 : Int, r0 = (M.length : Int) := ⟨_, rfl⟩
          have HR0 := Hid.mk_ hr0
          clear hr0
          obtain ⟨rn, rc, hrs⟩ := T5.out.r
          have hcellr := hrs.c1
          have ern : (rn : Int) = r0 := by rw [hrs.own.1, HR0.out, T5.out.p.length_eq]
          clear hrs
          go_upto_region 13 with fail
          go_region_held3 (fun w' => w'.cell? ⟨gr, 1, none⟩ = some (.slice K5 rn rc)) (first | assumption | go_keep) (first
            | (go_at_call 34; refine (len _ ga o A5 M (by exact Hid.mk_ (T5.out.below (Below.refl _ _).drew).a) r0 HR0).mono ?_; rintro e w8 ⟨rfl, rfl⟩)
            | fail)
          have T6 := Hid.mk_ (T5.out.below (Below.refl _ _).drew)
          have B6 := Hid.mk_ (B5.out.drew)
          clear T5 B5 hcellr
          go_wp2_with fail
          go_loopw [9] (fun z wr => ∃ i : Int, z = .int .i64 i ∧ -1 ≤ i ∧ i ≤ 9 ∧ Hid (Duo wr ga o A5 M gr K5 S) ∧ Hid (Below w.heap.size w wr)) (fun z _ => (9 - intOf z).toNat)
          case atStart => exact ⟨-1, rfl, by omega, by omega, T6, B6⟩
          case round =>
            clear T6 B6
            obtain ⟨i, rfl, hi0, hi9, TW, BZ⟩ := hrel
            by_cases hi8 : i ≤ 8
            · obtain ⟨v, hv⟩ : ∃ v, v = qof i M := ⟨_, rfl⟩
              have HV := Hid.mk_ hv
              cases v with
              | none =>
                have hx : Hid ((-1 : Int) = plc S i) := Hid.mk_ (plc_none TW.out.p hv.symm).symm
                clear hv
                go_upto_region 19 with (go_at_call 35; refine (has0 _ ga o A5 M i (Hid.mk_ TW.out.a) none HV).mono ?_; rintro e w9 ⟨rfl, b9⟩; unfold hasV)
                have T9 := TW.out.below b9
                have Z9 := BZ.out.trans (b9.mono BZ.out.size)
                have BX := Hid.mk_ (Box3.made w9 0 0 0)
                have al := (Below.refl w9.heap.size w9).alloc (Nat.le_refl _) (.cells #[.int .i64 0, .int .i64 0, .int .i64 0] 53)
                have T10 := Hid.mk_ (T9.below al)
                have Z10 := Hid.mk_ (Z9.trans (al.mono Z9.size))
                clear T9 Z9 al TW BZ b9
                generalize hqq : w9.heap.size = qq at *
                generalize w9.alloc (.cells #[.int .i64 0, .int .i64 0, .int .i64 0] 53) = wp at *
                clear hqq w9
                go_upto_region 20 with (go_at_call 36; refine (rat0 _ gr o K5 S i (Hid.mk_ T10.out.r) (-1) hx).mono ?_; rintro e w11 ⟨rfl, b11⟩)
                have BY := Hid.mk_ (BX.out.keep b11)
                have T11 := Hid.mk_ (T10.out.below b11)
                have Z11 := Hid.mk_ (Z10.out.trans (b11.mono Z10.out.size))
                obtain ⟨x0, x1, x2, _, _, _⟩ := BY.out
                have lt1 := BY.out.lt
                have ne := neq53_self 0 0 0
                clear T10 Z10 b11 BX HV hx
                refine wp_draws _ (Below.refl _ _) (by kernel_rfl) (by kernel_rfl) (fun hne hN => ?_)
                repeat (go_big_quiet_step (fail))
                refine wpQuiet_nil (after_cells ?_)
                intro w4 b4 _
                go_wp2_with fail
                go_roundw
                case rel => exact ⟨i + 1, by go_num, by omega, by omega, Hid.mk_ (T11.out.below b4), Hid.mk_ (Z11.out.trans (b4.mono Z11.out.size))⟩
                case measure => simp [intOf]; omega
              | some t =>
                obtain ⟨j, hj, hjt⟩ := plc_some TW.out.p TW.out.a.st hv.symm
                have hx := Hid.mk_ hj.symm
                have HJ := Hid.mk_ hjt
                clear hv hj hjt
                go_upto_region 19 with (go_at_call 35; refine (has0 _ ga o A5 M i (Hid.mk_ TW.out.a) (some t) HV).mono ?_; rintro e w9 ⟨rfl, b9⟩; unfold hasV)
                have T9 := TW.out.below b9
                have Z9 := BZ.out.trans (b9.mono BZ.out.size)
                have BX := Hid.mk_ (Box3.made w9 t.node t.inc t.hl)
                have al := (Below.refl w9.heap.size w9).alloc (Nat.le_refl _) (.cells #[.int .i64 t.node, .int .i64 t.inc, .int .i64 t.hl] 53)
                have T10 := Hid.mk_ (T9.below al)
                have Z10 := Hid.mk_ (Z9.trans (al.mono Z9.size))
                clear T9 Z9 al TW BZ b9
                generalize hqq : w9.heap.size = qq at *
                generalize w9.alloc (.cells #[.int .i64 t.node, .int .i64 t.inc, .int .i64 t.hl] 53) = wp at *
                clear hqq w9
                go_upto_region 20 with (go_at_call 36; refine (rat0 _ gr o K5 S i (Hid.mk_ T10.out.r) (j : Int) hx).mono ?_; rintro e w11 ⟨rfl, b11⟩)
                have BY := Hid.mk_ (BX.out.keep b11)
                have T11 := Hid.mk_ (T10.out.below b11)
                have Z11 := Hid.mk_ (Z10.out.trans (b11.mono Z10.out.size))
                obtain ⟨x0, x1, x2, _, _, _⟩ := BY.out
                have lt1 := BY.out.lt
                obtain ⟨rn2, rc2, hrs⟩ := T11.out.r
                have hcellr := hrs.c1
                have lt2 := hrs.lt
                have hcap := hrs.own.cap
                obtain ⟨hc1, hc2⟩ := hcap
                have jn : j < rn2 := by rw [hrs.own.1]; exact (List.getElem?_eq_some_iff.1 HJ.out).1
                have j1 : (j : Int) < (rn2 : Int) := by omega
                have j0 : (0 : Int) ≤ (j : Int) := by omega
                have jg : decide ((0 : Int) ≤ (j : Int)) = true := decide_eq_true j0
                obtain ⟨b, rfl, _, lt3, ⟨y0, y1, y2, y3⟩, _⟩ := hrs.own.row j t HJ.out
                have ne := neq53_self t.node t.inc t.hl
                clear T10 Z10 b11 BX HV hx hrs jn
                refine wp_draws _ (Below.refl _ _) (by kernel_rfl) (by kernel_rfl) (fun hne hN => ?_)
                repeat (go_big_quiet_step (fail))
                refine wpQuiet_nil (after_cells ?_)
                intro w4 b4 _
                go_wp2_with fail
                go_roundw
                case rel => exact ⟨i + 1, by go_num, by omega, by omega, Hid.mk_ (T11.out.below b4), Hid.mk_ (Z11.out.trans (b4.mono Z11.out.size))⟩
                case measure => simp [intOf]; omega
            · go_wp2_with fail
              go_roundw
              case rel => exact ⟨k + 1, A5, K5, M, S, by go_num, by omega, TW, BZ⟩
              case measure => simp [intOf]; omega
        · have e0 : (x.d == 0) = false := by simp [hd0]
          obtain ⟨M, hM⟩ : ∃ M, M = putQ x.c L := ⟨_, rfl⟩
          have HM := Hid.mk_ hM
          obtain ⟨pb, hpb⟩ : ∃ pb, pb = putB x.c L := ⟨_, rfl⟩
          have HP := Hid.mk_ hpb
          clear hM hpb
          go_upto_region 11 with fail
          go_region_held3 (fun w' => w'.cell? ⟨q, 2, none⟩ = some (.int .i64 x.c.n) ∧ w'.cell? ⟨q, 3, none⟩ = some (.int .i64 x.c.i) ∧ w'.cell? ⟨q, 4, none⟩ = some (.int .i64 x.c.h)) (first | exact ⟨by assumption, by assumption, by assumption⟩ | go_keep) (first
            | (go_at_call 32; refine (put0 wx.drew ga o A' L x.c (by exact Hid.mk_ TD.out.a) pb HP M HM).mono ?_; rintro e w4 ⟨rfl, T4⟩; have s42 := (Turn.wr T4.out).cell (by exact x2) NA.out; have s43 := (Turn.wr T4.out).cell (by exact x3) NA.out; have s44 := (Turn.wr T4.out).cell (by exact x4) NA.out)
            | (go_at_call 33; refine (rput w4 gr o K' R L x.c (Hid.mk_ (TD.out.rkeep T4.out)) (Hid.mk_ TD.out.p) ST pb HP M HM).mono ?_; rintro e w5 ⟨rfl, S, p5, T5'⟩; have s52 := (RTurn.wr T5'.out).cell s42 NB.out; have s53 := (RTurn.wr T5'.out).cell s43 NB.out; have s54 := (RTurn.wr T5'.out).cell s44 NB.out)
            | fail)
          have B5 : Hid (Below w.heap.size w w5) := Hid.mk_ (by
            have z1 := B3.out.trans (dx.mono B3.out.size)
            have z2 := z1.trans ((Turn.wr T4.out).below (B := w.heap.size) (Nat.le_trans B3.out.size dx.size) (fun k hk => Nat.le_trans HG.out.1 (TD.out.a.ge k hk)))
            exact z2.trans ((RTurn.wr T5'.out).below (B := w.heap.size) z2.size (fun k hk => Nat.le_trans HG.out.2 (TD.out.r.its k hk).1)))
          obtain ⟨A5, K5, t5⟩ := TD.out.both T4.out T5'.out p5.out
          have T5 := Hid.mk_ t5
          clear x0 x1 x2 x3 x4 T3 TD T4 T5' t5 B3 s42 s43 s44 s52 s53 s54 NA NB p5 HM HP dx
          obtain ⟨r0, hr0⟩ : ∃ r0 : Int, r0 = (M.length : Int) := ⟨_, rfl⟩
          have HR0 := Hid.mk_ hr0
          clear hr0
          obtain ⟨rn, rc, hrs⟩ := T5.out.r
          have hcellr := hrs.c1
          have ern : (rn : Int) = r0 := by rw [hrs.own.1, HR0.out, T5.out.p.length_eq]
          clear hrs
          go_upto_region 13 with fail
          go_region_held3 (fun w' => w'.cell? ⟨gr, 1, none⟩ = some (.slice K5 rn rc)) (first | assumption | go_keep) (first
            | (go_at_call 34; refine (len _ ga o A5 M (by exact Hid.mk_ (T5.out.below (Below.refl _ _).drew).a) r0 HR0).mono ?_; rintro e w8 ⟨rfl, rfl⟩)
            | fail)
          have T6 := Hid.mk_ (T5.out.below (Below.refl _ _).drew)
          have B6 := Hid.mk_ (B5.out.drew)
          clear T5 B5 hcellr
          go_wp2_with fail
          go_loopw [9] (fun z wr => ∃ i : Int, z = .int .i64 i ∧ -1 ≤ i ∧ i ≤ 9 ∧ Hid (Duo wr ga o A5 M gr K5 S) ∧ Hid (Below w.heap.size w wr)) (fun z _ => (9 - intOf z).toNat)
          case atStart => exact ⟨-1, rfl, by omega, by omega, T6, B6⟩
          case round =>
            clear T6 B6
            obtain ⟨i, rfl, hi0, hi9, TW, BZ⟩ := hrel
            by_cases hi8 : i ≤ 8
            · obtain ⟨v, hv⟩ : ∃ v, v = qof i M := ⟨_, rfl⟩
              have HV := Hid.mk_ hv
              cases v with
              | none =>
                have hx : Hid ((-1 : Int) = plc S i) := Hid.mk_ (plc_none TW.out.p hv.symm).symm
                clear hv
                go_upto_region 19 with (go_at_call 35; refine (has0 _ ga o A5 M i (Hid.mk_ TW.out.a) none HV).mono ?_; rintro e w9 ⟨rfl, b9⟩; unfold hasV)
                have T9 := TW.out.below b9
                have Z9 := BZ.out.trans (b9.mono BZ.out.size)
                have BX := Hid.mk_ (Box3.made w9 0 0 0)
                have al := (Below.refl w9.heap.size w9).alloc (Nat.le_refl _) (.cells #[.int .i64 0, .int .i64 0, .int .i64 0] 53)
                have T10 := Hid.mk_ (T9.below al)
                have Z10 := Hid.mk_ (Z9.trans (al.mono Z9.size))
                clear T9 Z9 al TW BZ b9
                generalize hqq : w9.heap.size = qq at *
                generalize w9.alloc (.cells #[.int .i64 0, .int .i64 0, .int .i64 0] 53) = wp at *
                clear hqq w9
                go_upto_region 20 with (go_at_call 36; refine (rat0 _ gr o K5 S i (Hid.mk_ T10.out.r) (-1) hx).mono ?_; rintro e w11 ⟨rfl, b11⟩)
                have BY := Hid.mk_ (BX.out.keep b11)
                have T11 := Hid.mk_ (T10.out.below b11)
                have Z11 := Hid.mk_ (Z10.out.trans (b11.mono Z10.out.size))
                obtain ⟨x0, x1, x2, _, _, _⟩ := BY.out
                have lt1 := BY.out.lt
                have ne := neq53_self 0 0 0
                clear T10 Z10 b11 BX HV hx
                refine wp_draws _ (Below.refl _ _) (by kernel_rfl) (by kernel_rfl) (fun hne hN => ?_)
                repeat (go_big_quiet_step (fail))
                refine wpQuiet_nil (after_cells ?_)
                intro w4 b4 _
                go_wp2_with fail
                go_roundw
                case rel => exact ⟨i + 1, by go_num, by omega, by omega, Hid.mk_ (T11.out.below b4), Hid.mk_ (Z11.out.trans (b4.mono Z11.out.size))⟩
                case measure => simp [intOf]; omega
              | some t =>
                obtain ⟨j, hj, hjt⟩ := plc_some TW.out.p TW.out.a.st hv.symm
                have hx := Hid.mk_ hj.symm
                have HJ := Hid.mk_ hjt
                clear hv hj hjt
                go_upto_region 19 with (go_at_call 35; refine (has0 _ ga o A5 M i (Hid.mk_ TW.out.a) (some t) HV).mono ?_; rintro e w9 ⟨rfl, b9⟩; unfold hasV)
                have T9 := TW.out.below b9
                have Z9 := BZ.out.trans (b9.mono BZ.out.size)
                have BX := Hid.mk_ (Box3.made w9 t.node t.inc t.hl)
                have al := (Below.refl w9.heap.size w9).alloc (Nat.le_refl _) (.cells #[.int .i64 t.node, .int .i64 t.inc, .int .i64 t.hl] 53)
                have T10 := Hid.mk_ (T9.below al)
                have Z10 := Hid.mk_ (Z9.trans (al.mono Z9.size))
                clear T9 Z9 al TW BZ b9
                generalize hqq : w9.heap.size = qq at *
                generalize w9.alloc (.cells #[.int .i64 t.node, .int .i64 t.inc, .int .i64 t.hl] 53) = wp at *
                clear hqq w9
                go_upto_region 20 with (go_at_call 36; refine (rat0 _ gr o K5 S i (Hid.mk_ T10.out.r) (j : Int) hx).mono ?_; rintro e w11 ⟨rfl, b11⟩)
                have BY := Hid.mk_ (BX.out.keep b11)
                have T11 := Hid.mk_ (T10.out.below b11)
                have Z11 := Hid.mk_ (Z10.out.trans (b11.mono Z10.out.size))
                obtain ⟨x0, x1, x2, _, _, _⟩ := BY.out
                have lt1 := BY.out.lt
                obtain ⟨rn2, rc2, hrs⟩ := T11.out.r
                have hcellr := hrs.c1
                have lt2 := hrs.lt
                have hcap := hrs.own.cap
                obtain ⟨hc1, hc2⟩ := hcap
                have jn : j < rn2 := by rw [hrs.own.1]; exact (List.getElem?_eq_some_iff.1 HJ.out).1
                have j1 : (j : Int) < (rn2 : Int) := by omega
                have j0 : (0 : Int) ≤ (j : Int) := by omega
                have jg : decide ((0 : Int) ≤ (j : Int)) = true := decide_eq_true j0
                obtain ⟨b, rfl, _, lt3, ⟨y0, y1, y2, y3⟩, _⟩ := hrs.own.row j t HJ.out
                have ne := neq53_self t.node t.inc t.hl
                clear T10 Z10 b11 BX HV hx hrs jn
                refine wp_draws _ (Below.refl _ _) (by kernel_rfl) (by kernel_rfl) (fun hne hN => ?_)
                repeat (go_big_quiet_step (fail))
                refine wpQuiet_nil (after_cells ?_)
                intro w4 b4 _
                go_wp2_with fail
                go_roundw
                case rel => exact ⟨i + 1, by go_num, by omega, by omega, Hid.mk_ (T11.out.below b4), Hid.mk_ (Z11.out.trans (b4.mono Z11.out.size))⟩
                case measure => simp [intOf]; omega
            · go_wp2_with fail
              go_roundw
              case rel => exact ⟨k + 1, A5, K5, M, S, by go_num, by omega, TW, BZ⟩
              case measure => simp [intOf]; omega
    · obtain rfl : k = n := by omega
      go_wp2_with (go_at_call 37; refine (awake _).mono ?_; rintro e w5 ⟨rfl, b5⟩)
      go_ret
      exact ⟨rfl, BW.out.trans (b5.mono BW.out.size)⟩
def sh1 : Sh := sh5
theorem walk (w : World) (a : Int) (ha : (Lit.int .i64 a).wf = true) (A : Option Addr) (n c : Nat) (h : RD w (.slice sh1) [.slice A n c]) :
    Calls Try.prog 9 #[.int .i64 a, .slice A n c] w fun e w' => e = .returned (.bool true) ∧ Below w.heap.size w w' := by
  obtain ⟨ls, h1, h2, h3, h4⟩ := rd_fives h
  have h5 : n ≤ 9223372036854775807 := by unfold maxLen at h4; omega
  exact law a A n c ls w (Hid.mk_ h2) (Hid.mk_ h1.symm) h5 h3
end Go.Proofs.Ytoikadgfbjjfiaa.WRumorPlays
