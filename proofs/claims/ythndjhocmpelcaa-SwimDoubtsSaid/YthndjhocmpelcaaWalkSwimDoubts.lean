/- SwimDoubts: the walk of the law: who does not answer is asked for by others, then doubted, then held to be dead, each at its tick; who answers is not. No condition. -/
import Derived.Test.YthndjhocmpelcaaLd
namespace Go.Proofs.Ythndjhocmpelcaa.WSwimDoubts
open Go.RowKit Kit Tri3 Swi
set_option linter.unusedVariables false
theorem clat_nil (w : World) : Hid (ClAt w none []) := Hid.mk_ (fun i c h => by simp at h)
theorem noS (S : Nat → Prop) : Hid (∀ b off, (none : Option Addr) = some ⟨b, off, none⟩ → 0 < 0 → ¬ S b) := Hid.mk_ (fun b off h => by cases h)
theorem zmsg_size : zmsg.size = 62 := rfl
theorem takeO {l : List Om} {j : Nat} {x : Om} (h : l[j]? = some x) : l.take (j + 1) = l.take j ++ [x] := by rw [List.take_add_one, h]; rfl
theorem msg_box (wr : World) (cs : Array Value) (hc : cs.size = 62) : ((wr.alloc (.cells zmsg 42)).setRow wr.heap.size cs).heap[wr.heap.size]? = some (.cells cs 42 (0, 0)) ∧ Below wr.heap.size wr ((wr.alloc (.cells zmsg 42)).setRow wr.heap.size cs) := by
  have b1 := (Below.refl wr.heap.size wr).alloc (Nat.le_refl _) (.cells zmsg 42)
  exact ⟨setRow_heap _ _ _ _ 42 (0, 0) (heap_alloc_new wr (.cells zmsg 42)), b1.trans ((wr_row _ _ _).below b1.size (fun i hi => by omega))⟩
set_option maxRecDepth 100000 in
set_option maxHeartbeats 16000000 in
theorem lawfalse (w : World) (dr : Int) (hdr : Hid (0 ≤ dr)) : Calls Try.prog 4 #[.int .u64 dr, .bool false] w fun e w' => e = .returned (.bool true) ∧ Below w.heap.size w w' := by
  have h00 : Hid ((0 : Int) ≤ 0 ∧ (0 : Int) ≤ 7) := Hid.mk_ (by decide)
  have h05 : Hid ((0 : Int) ≤ 5 ∧ (5 : Int) ≤ 1000000) := Hid.mk_ (by decide)
  have nb : Hid (0 = ([] : List Cl).length) := Hid.mk_ rfl
  have hl1 : Hid ((1 : Nat) = [(1 : Int)].length) := Hid.mk_ rfl
  have HA : Hid (dA = dHear (dNew 0 5) ⟨1, 3, 1⟩) := Hid.mk_ rfl
  have HNA : dA.now < 1000000 := by unfold dA; rw [(hear_kp _ _).now]; show (0 : Int) < 1000000; decide
  have VA := Hid.mk_ Vok.dA
  have HP := Hid.mk_ (first_ping dr).symm
  go_enter Try.func4, Try.ntmps4
  go_upto_region 3 with (first
    | (go_at_call 9; refine (newD _ 0 5 h00 h05).mono ?_; rintro e w1 ⟨g, S1, rfl, D1, H1, b1⟩)
    | (go_at_call 12; refine (hear1 w1 S1 g (dNew 0 5) ⟨1, 3, 1⟩ D1 dA HA _ (Hid.mk_ rfl)).mono ?_; rintro e w2 ⟨rfl, t2⟩))
  obtain ⟨S2, D2, k2, r2⟩ := t2.out
  have B2 : Hid (Below w.heap.size w w2) := Hid.mk_ (b1.trans (r2.below b1.size (fun k hk => H1.out k hk)))
  have H2 : Hid (∀ k, S2 k → w.heap.size ≤ k) := Hid.mk_ (fun k hk => (k2 k hk).elim (H1.out k) (fun h => Nat.le_trans b1.size h))
  have HD2 := Hid.mk_ D2
  clear D1 H1 b1 t2 D2 k2 r2
  have al := (Below.refl w2.heap.size w2).alloc (Nat.le_refl _) (.cells #[.int .i64 1] 3)
  have HDa := Hid.mk_ (HD2.out.below al)
  have B3 := Hid.mk_ (B2.out.trans (al.mono B2.out.size))
  have BA := Hid.mk_ al
  have P6 : Hid (Prb.Row (w2.alloc (.cells #[.int .i64 1] 3)) (some ⟨w2.heap.size, 0, none⟩) [1]) := Hid.mk_ (Prb.Row.one w2 1 3)
  have N6 : Hid (∀ b off, some (⟨w2.heap.size, 0, none⟩ : Addr) = some ⟨b, off, none⟩ → 0 < 1 → ¬ S2 b) := Hid.mk_ (fun b off e _ hb => by
    injection e with e
    injection e with e _
    have := HD2.out.blk b hb
    omega)
  clear al
  go_upto_region 4 with (go_at_call 13; refine (tick1 (w2.alloc (.cells #[.int .i64 1] 3)) S2 g dA HDa VA HNA (some ⟨w2.heap.size, 0, none⟩) 1 1 [1] dr P6 N6 hl1 (by decide) (by decide) hdr (dTick [1] dr dA).1 (Hid.mk_ rfl) _ HP).mono ?_; rintro e w4 ⟨v4, T4, rfl, o4, t4⟩)
  clear HDa P6 N6 BA
  obtain ⟨A4, c4, e4, _, _⟩ := o4.out.form
  have e5 : v4 = .slice A4 1 c4 := e4
  subst e5
  clear e4
  obtain ⟨b, P, np, cp, rfl, hT, hb, M, CL, hPb, RG⟩ := o4.out.mat 0 _ rfl
  have x0 : w4.cell? ⟨b, 0, none⟩ = some (.int .i64 1) := M.c0
  have x2 : w4.cell? ⟨b, 2, none⟩ = some (.int .i64 1) := M.c2
  have x3 : w4.cell? ⟨b, 3, none⟩ = some (.int .i64 1) := M.c3
  obtain ⟨S4, D4, k4, r4, n4⟩ := t4.out
  have HD4 := Hid.mk_ D4
  have B4 : Hid (Below w.heap.size w w4) := Hid.mk_ (B3.out.trans (r4.below B3.out.size (fun k hk => H2.out k hk)))
  have H4 : Hid (∀ k, S4 k → w.heap.size ≤ k) := Hid.mk_ (fun k hk => (k4 k hk).elim (H2.out k) (fun h => Nat.le_trans B3.out.size h))
  clear D4 k4 r4 n4 t4 o4 M CL hPb RG hT hb B3 H2
  have HD5 : Hid (Det w4 S4 g (sD false dr 0)) := Hid.mk_ (by rw [sD_zero_false]; exact HD4.out)
  have B5 := B4
  have H5 := H4
  clear HD4
  go_wp2_with fail
  obtain ⟨w5, hw5⟩ : ∃ w5, w5 = w4 := ⟨_, rfl⟩
  rw [← hw5] at HD5 B5 ⊢
  obtain ⟨S5, hS5⟩ : ∃ S5, S5 = S4 := ⟨_, rfl⟩
  rw [← hS5] at HD5 H5
  clear hw5 hS5
  go_loopw [7, 8] (fun a i wr => ∃ k : Nat, a = .int .i64 0 ∧ i = .int .i64 ((k : Int) + 2) ∧ k ≤ 10 ∧ Hid (DTurn w5 wr S5 g (sD false dr k))) (fun _ i _ => 12 - (intOf i).toNat)
  case atStart => exact ⟨0, rfl, rfl, by omega, Hid.mk_ (DTurn.of_below HD5.out (Below.refl _ _))⟩
  case round =>
    obtain ⟨k, rfl, rfl, hk, DT⟩ := hrel
    obtain ⟨S6, D6, k6, r6⟩ := DT.out
    have HD6 := Hid.mk_ D6
    have K6 := Hid.mk_ k6
    have R6 := Hid.mk_ r6
    have B6 := Hid.mk_ (B5.out.trans (r6.below B5.out.size H5.out))
    have H6 : Hid (∀ i, S6 i → w.heap.size ≤ i) := Hid.mk_ (fun i hi => (k6 i hi).elim (H5.out i) (fun h => Nat.le_trans B5.out.size h))
    clear D6 k6 r6 DT
    by_cases hlt : k < 10
    · obtain ⟨G1, G2, G3, G4⟩ := doubts false dr k hlt
      have VK := Hid.mk_ (Vok.sD false dr k)
      obtain ⟨dk, hdk⟩ : ∃ dk, dk = sD false dr k := ⟨_, rfl⟩
      rw [← hdk] at HD6 VK G1 G2 G3
      obtain ⟨ms, hms⟩ : ∃ ms, ms = (dTick [1] dr dk).2 := ⟨_, rfl⟩
      obtain ⟨dt, hdt⟩ : ∃ dt, dt = (dTick [1] dr dk).1 := ⟨_, rfl⟩
      rw [← hms] at G1 G2
      have HMS := Hid.mk_ hms
      have HDT := Hid.mk_ hdt
      have HN1 : Hid (sD false dr (k + 1) = dt) := Hid.mk_ (by rw [sD_succ_false, ← hdk, ← hdt])
      have VT : Hid (Vok dt) := Hid.mk_ (by rw [hdt]; exact VK.out.tick)
      have HG1 := Hid.mk_ G1
      have HG2 := Hid.mk_ G2
      have HG4 := Hid.mk_ G4
      clear hdk hms hdt G1 G2 G4
      have l1 : (k : Int) + 2 ≤ 11 := by omega
      go_upto_region 12 with fail
      have al := (Below.refl wr.heap.size wr).alloc (Nat.le_refl _) (.cells #[.int .i64 1] 3)
      have HDa := Hid.mk_ (HD6.out.below al)
      have B7 := Hid.mk_ (B6.out.trans (al.mono B6.out.size))
      have BA := Hid.mk_ al
      have P6 : Hid (Prb.Row (wr.alloc (.cells #[.int .i64 1] 3)) (some ⟨wr.heap.size, 0, none⟩) [1]) := Hid.mk_ (Prb.Row.one wr 1 3)
      have N6 : Hid (∀ b off, some (⟨wr.heap.size, 0, none⟩ : Addr) = some ⟨b, off, none⟩ → 0 < 1 → ¬ S6 b) := Hid.mk_ (fun b off e _ hb => by
        injection e with e
        injection e with e _
        have := HD6.out.blk b hb
        omega)
      clear al
      go_wp2_with (go_at_call 13; refine (tick1 (wr.alloc (.cells #[.int .i64 1] 3)) S6 g dk HDa VK G3 (some ⟨wr.heap.size, 0, none⟩) 1 1 [1] dr P6 N6 hl1 (by decide) (by decide) hdr dt HDT ms HMS).mono ?_; rintro e w8 ⟨v8, T8, rfl, o8, t8⟩; obtain ⟨A8, c8, e8, _, _⟩ := o8.out.form; subst e8)
      generalize hw7 : wr.alloc (.cells #[.int .i64 1] 3) = w7 at *
      clear HDa P6 N6 hw7
      obtain ⟨S8, D8, k8, r8, n8⟩ := t8.out
      have HD8 := Hid.mk_ D8
      have HO8 := o8
      have HN8 := Hid.mk_ n8
      have R8 := Hid.mk_ (DTurn.next R6.out K6.out BA.out ⟨S8, D8, k8, r8⟩)
      have H8 : Hid (∀ i, S8 i → S6 i ∨ w7.heap.size ≤ i) := Hid.mk_ k8
      have RR8 : Hid (Rum.Wr w5 w8 S5) := Hid.mk_ ((R6.out.then_ (Rum.Wr.of_below BA.out (fun _ => False)) (fun _ h => h.elim)).then_ r8 K6.out)
      have KK8 : Hid (∀ i, S8 i → S5 i ∨ w5.heap.size ≤ i) := Hid.mk_ (fun i hi => (k8 i hi).elim (K6.out i) (fun h => .inr (by have := R6.out.size; have := BA.out.size; omega)))
      clear D8 k8 r8 n8 t8 o8
      have hml : ms.length ≤ 5 := HG2.out
      go_loopw [7, 55] (fun a i wq => ∃ j : Nat, a = .int .i64 0 ∧ i = .int .i64 (j : Int) ∧ j ≤ ms.length ∧ Hid (DTurn w8 wq S8 g dt)) (fun _ i _ => ms.length - (intOf i).toNat)
      case atStart => exact ⟨0, rfl, rfl, by omega, Hid.mk_ (DTurn.of_below HD8.out (Below.refl _ _))⟩
      case round =>
        obtain ⟨j, rfl, rfl, hj, DU⟩ := hrel
        by_cases hlt2 : j < ms.length
        · obtain ⟨m, hm⟩ : ∃ m, ms[j]? = some m := ⟨_, List.getElem?_eq_getElem hlt2⟩
          obtain ⟨S9, D9, k9, r9⟩ := DU.out
          have HD9 := Hid.mk_ D9
          have K9 := Hid.mk_ k9
          have R9 := Hid.mk_ r9
          obtain ⟨bm, Pm, nm, cm, rfl, _, hbm, Mm, _, _, RGm⟩ := (HO8.out.wr r9 (fun i hi => HN8.out i hi)).mat j m hm
          have HRG := Hid.mk_ RGm
          have hk3 := noReq_at HG1.out hm
          have HTK : Hid (ms.take (j + 1) = ms.take j ++ [m]) := Hid.mk_ (takeO hm)
          clear hm D9 k9 r9 RGm Mm hbm DU
          have l2 : (j : Int) < (ms.length : Int) := by omega
          have l0 : (0 : Int) ≤ (j : Int) := by omega
          obtain ⟨mm, hmm⟩ : ∃ mm, mm = msg m.k m.f m.t m.s m.fo m.ab (.slice Pm nm cm) := ⟨_, rfl⟩
          have HMM := Hid.mk_ hmm
          have HSZ : Hid ((Try.prog.info? 42).map (·.size) = some mm.toList.length) := Hid.mk_ (by rw [hmm]; exact size42)
          have HSZ2 : Hid ((Try.prog.info? 42).map (·.size) = some mm.size) := Hid.mk_ (by rw [hmm]; exact size42)
          have HSZ3 : Hid (zmsg.size = mm.size) := Hid.mk_ (by rw [hmm]; rfl)
          have HONE : Hid (mm.all (·.oneCell') = true) := Hid.mk_ (by rw [hmm]; exact msg_one rfl)
          rw [← hmm] at HRG
          have CB := Hid.mk_ (msg_box wr mm (by rw [hmm]; rfl))
          have ZZ := Hid.mk_ (heap_alloc_new wr (.cells zmsg 42))
          have htl : mm.toList.toArray = mm := Array.toArray_toList
          clear hmm
          go_upto_region 15 with (first
            | (refine wpList_load_mid rfl 42 _ rfl bm (j * 62) rfl _ _ HRG.out Try.underlying42 rfl HSZ.out ?_; rw [htl])
            | (refine wpList_store_row rfl 42 _ _ rfl wr.heap.size mm rfl rfl 42 _ ZZ.out HSZ2.out HSZ3.out HONE.out ?_))
          have BB := Hid.mk_ CB.out.2
          have M0 := Hid.mk_ CB.out.1
          have HD9b := Hid.mk_ (HD9.out.below BB.out)
          clear ZZ CB HD9 HRG HSZ HSZ2 HSZ3 HONE htl
          generalize (wr.alloc (.cells zmsg 42)).setRow wr.heap.size mm = wb at *
          generalize wr.heap.size = z at M0 ⊢
          have y0 : wb.cell? ⟨z, 0, none⟩ = some (.int .i64 m.k) := by rw [cell_of_row wb z 0 _ 42 (0, 0) M0.out, HMM.out]; rfl
          have y3 : wb.cell? ⟨z, 3, none⟩ = some (.int .i64 m.s) := by rw [cell_of_row wb z 3 _ 42 (0, 0) M0.out, HMM.out]; rfl
          go_wp2_with fail
          go_roundw
          case rel => exact ⟨j + 1, rfl, by go_num, by omega, Hid.mk_ (DTurn.next R9.out K9.out BB.out (DTurn.of_below HD9b.out (Below.refl _ _)))⟩
          case measure => simp [intOf]; omega
        · obtain rfl : j = ms.length := by omega
          have DN : Hid (DTurn w8 wr S8 g (sD false dr (k + 1))) := Hid.mk_ (by rw [HN1.out]; exact DU.out)
          obtain ⟨SA, DA, kA, rA⟩ := DN.out
          have HDA := Hid.mk_ DA
          have HEND : Hid (DTurn w5 wr S5 g (sD false dr (k + 1))) := Hid.mk_ (DTurn.after RR8.out KK8.out DN.out)
          clear DA kA rA DU DN
          have hw := HG4.out
          have HV : Hid ((.agg #[.int .i64 1, .int .i64 3, .int .i64 (want false k)] : Value) = .agg #[.int .i64 (cOf (sD false dr (k + 1)) 1).n, .int .i64 (cOf (sD false dr (k + 1)) 1).i, .int .i64 (cOf (sD false dr (k + 1)) 1).h]) := Hid.mk_ (by rw [hw])
          clear hw
          by_cases k9 : 9 ≤ k
          · have HW : want false k = 3 := by simp [want, k9]
            rw [HW] at HV
            have g1 : (5 : Int) ≤ (k : Int) + 2 := by omega
            have g2 : (11 : Int) ≤ (k : Int) + 2 := by omega
            go_wp2_with (go_at_call 14; refine (ofD wr SA g (sD false dr (k + 1)) 1 HDA _ HV).mono ?_; rintro e wd ⟨rfl, bd⟩)
            go_roundw
            case rel => exact ⟨k + 1, rfl, by go_num, by omega, Hid.mk_ (HEND.out.trans fun S hS => DTurn.of_below hS (bd.alloc bd.size _))⟩
            case measure => simp [intOf]; omega
          · by_cases k3 : 3 ≤ k
            · have HW : want false k = 2 := by simp [want, k9, k3]
              rw [HW] at HV
              have g1 : (5 : Int) ≤ (k : Int) + 2 := by omega
              have g2 : ¬ (11 : Int) ≤ (k : Int) + 2 := by omega
              go_wp2_with (go_at_call 14; refine (ofD wr SA g (sD false dr (k + 1)) 1 HDA _ HV).mono ?_; rintro e wd ⟨rfl, bd⟩)
              go_roundw
              case rel => exact ⟨k + 1, rfl, by go_num, by omega, Hid.mk_ (HEND.out.trans fun S hS => DTurn.of_below hS (bd.alloc bd.size _))⟩
              case measure => simp [intOf]; omega
            · have HW : want false k = 1 := by simp [want, k9, k3]
              rw [HW] at HV
              have g1 : ¬ (5 : Int) ≤ (k : Int) + 2 := by omega
              have g2 : ¬ (11 : Int) ≤ (k : Int) + 2 := by omega
              go_wp2_with (go_at_call 14; refine (ofD wr SA g (sD false dr (k + 1)) 1 HDA _ HV).mono ?_; rintro e wd ⟨rfl, bd⟩)
              go_roundw
              case rel => exact ⟨k + 1, rfl, by go_num, by omega, Hid.mk_ (HEND.out.trans fun S hS => DTurn.of_below hS (bd.alloc bd.size _))⟩
              case measure => simp [intOf]; omega
    · obtain rfl : k = 10 := by omega
      have l1 : ¬ ((10 : Nat) : Int) + 2 ≤ 11 := by decide
      have hb12 : decide (((10 : Nat) : Int) + 2 ≤ 11) = false := by decide
      go_wp2_with (go_at_call 11; refine (awake _).mono ?_; rintro e w9 ⟨rfl, b9⟩)
      go_ret
      exact ⟨rfl, B6.out.trans (b9.mono B6.out.size)⟩
set_option maxRecDepth 100000 in
set_option maxHeartbeats 16000000 in
theorem lawtrue (w : World) (dr : Int) (hdr : Hid (0 ≤ dr)) : Calls Try.prog 4 #[.int .u64 dr, .bool true] w fun e w' => e = .returned (.bool true) ∧ Below w.heap.size w w' := by
  have h00 : Hid ((0 : Int) ≤ 0 ∧ (0 : Int) ≤ 7) := Hid.mk_ (by decide)
  have h05 : Hid ((0 : Int) ≤ 5 ∧ (5 : Int) ≤ 1000000) := Hid.mk_ (by decide)
  have nb : Hid (0 = ([] : List Cl).length) := Hid.mk_ rfl
  have hl1 : Hid ((1 : Nat) = [(1 : Int)].length) := Hid.mk_ rfl
  have HA : Hid (dA = dHear (dNew 0 5) ⟨1, 3, 1⟩) := Hid.mk_ rfl
  have HNA : dA.now < 1000000 := by unfold dA; rw [(hear_kp _ _).now]; show (0 : Int) < 1000000; decide
  have VA := Hid.mk_ Vok.dA
  have HP := Hid.mk_ (first_ping dr).symm
  go_enter Try.func4, Try.ntmps4
  go_upto_region 3 with (first
    | (go_at_call 9; refine (newD _ 0 5 h00 h05).mono ?_; rintro e w1 ⟨g, S1, rfl, D1, H1, b1⟩)
    | (go_at_call 12; refine (hear1 w1 S1 g (dNew 0 5) ⟨1, 3, 1⟩ D1 dA HA _ (Hid.mk_ rfl)).mono ?_; rintro e w2 ⟨rfl, t2⟩))
  obtain ⟨S2, D2, k2, r2⟩ := t2.out
  have B2 : Hid (Below w.heap.size w w2) := Hid.mk_ (b1.trans (r2.below b1.size (fun k hk => H1.out k hk)))
  have H2 : Hid (∀ k, S2 k → w.heap.size ≤ k) := Hid.mk_ (fun k hk => (k2 k hk).elim (H1.out k) (fun h => Nat.le_trans b1.size h))
  have HD2 := Hid.mk_ D2
  clear D1 H1 b1 t2 D2 k2 r2
  have al := (Below.refl w2.heap.size w2).alloc (Nat.le_refl _) (.cells #[.int .i64 1] 3)
  have HDa := Hid.mk_ (HD2.out.below al)
  have B3 := Hid.mk_ (B2.out.trans (al.mono B2.out.size))
  have BA := Hid.mk_ al
  have P6 : Hid (Prb.Row (w2.alloc (.cells #[.int .i64 1] 3)) (some ⟨w2.heap.size, 0, none⟩) [1]) := Hid.mk_ (Prb.Row.one w2 1 3)
  have N6 : Hid (∀ b off, some (⟨w2.heap.size, 0, none⟩ : Addr) = some ⟨b, off, none⟩ → 0 < 1 → ¬ S2 b) := Hid.mk_ (fun b off e _ hb => by
    injection e with e
    injection e with e _
    have := HD2.out.blk b hb
    omega)
  clear al
  go_upto_region 4 with (go_at_call 13; refine (tick1 (w2.alloc (.cells #[.int .i64 1] 3)) S2 g dA HDa VA HNA (some ⟨w2.heap.size, 0, none⟩) 1 1 [1] dr P6 N6 hl1 (by decide) (by decide) hdr (dTick [1] dr dA).1 (Hid.mk_ rfl) _ HP).mono ?_; rintro e w4 ⟨v4, T4, rfl, o4, t4⟩)
  clear HDa P6 N6 BA
  obtain ⟨A4, c4, e4, _, _⟩ := o4.out.form
  have e5 : v4 = .slice A4 1 c4 := e4
  subst e5
  clear e4
  obtain ⟨b, P, np, cp, rfl, hT, hb, M, CL, hPb, RG⟩ := o4.out.mat 0 _ rfl
  have x0 : w4.cell? ⟨b, 0, none⟩ = some (.int .i64 1) := M.c0
  have x2 : w4.cell? ⟨b, 2, none⟩ = some (.int .i64 1) := M.c2
  have x3 : w4.cell? ⟨b, 3, none⟩ = some (.int .i64 1) := M.c3
  obtain ⟨S4, D4, k4, r4, n4⟩ := t4.out
  have HD4 := Hid.mk_ D4
  have B4 : Hid (Below w.heap.size w w4) := Hid.mk_ (B3.out.trans (r4.below B3.out.size (fun k hk => H2.out k hk)))
  have H4 : Hid (∀ k, S4 k → w.heap.size ≤ k) := Hid.mk_ (fun k hk => (k4 k hk).elim (H2.out k) (fun h => Nat.le_trans B3.out.size h))
  clear D4 k4 r4 n4 t4 o4 M CL hPb RG hT hb B3 H2
  have HT1 : Hid (sD true dr 0 = dHandle (dTick [1] dr dA).1 2 1 0 1 0 0 []) := Hid.mk_ (sD_zero_true dr)
  have VT1 : Hid (Vok (dTick [1] dr dA).1) := Hid.mk_ VA.out.tick
  obtain ⟨dq, hdq⟩ : ∃ dq, dq = (dTick [1] dr dA).1 := ⟨_, rfl⟩
  rw [← hdq] at HT1 VT1 HD4
  clear hdq
  go_wp2_with (go_at_call 10; refine (handle1 w4 S4 g dq (msg 2 1 0 1 0 0 (.slice none 0 0)) 2 1 0 1 0 0 none 0 0 [] HD4 VT1 (Hid.mk_ (MsgC.of_msg _ _ _ _ _ _ _ _ _)) (clat_nil w4) (noS S4) nb (by decide) (by decide) (sD true dr 0) HT1 _ (Hid.mk_ rfl)).mono ?_; rintro e w5 ⟨v5, T5, rfl, o5, t5⟩; obtain ⟨S5, D5, k5, r5, n5⟩ := t5.out)
  have HD5 := Hid.mk_ D5
  have B5 : Hid (Below w.heap.size w w5) := Hid.mk_ (B4.out.trans (r5.below B4.out.size (fun k hk => H4.out k hk)))
  have H5 : Hid (∀ k, S5 k → w.heap.size ≤ k) := Hid.mk_ (fun k hk => (k5 k hk).elim (H4.out k) (fun h => Nat.le_trans B4.out.size h))
  clear D5 k5 r5 n5 t5 o5 HT1 VT1 HD4
  go_loopw [7, 8] (fun a i wr => ∃ k : Nat, a = .int .i64 0 ∧ i = .int .i64 ((k : Int) + 2) ∧ k ≤ 10 ∧ Hid (DTurn w5 wr S5 g (sD true dr k))) (fun _ i _ => 12 - (intOf i).toNat)
  case atStart => exact ⟨0, rfl, rfl, by omega, Hid.mk_ (DTurn.of_below HD5.out (Below.refl _ _))⟩
  case round =>
    obtain ⟨k, rfl, rfl, hk, DT⟩ := hrel
    obtain ⟨S6, D6, k6, r6⟩ := DT.out
    have HD6 := Hid.mk_ D6
    have K6 := Hid.mk_ k6
    have R6 := Hid.mk_ r6
    have B6 := Hid.mk_ (B5.out.trans (r6.below B5.out.size H5.out))
    have H6 : Hid (∀ i, S6 i → w.heap.size ≤ i) := Hid.mk_ (fun i hi => (k6 i hi).elim (H5.out i) (fun h => Nat.le_trans B5.out.size h))
    clear D6 k6 r6 DT
    by_cases hlt : k < 10
    · obtain ⟨G1, G2, G3, G4⟩ := doubts true dr k hlt
      have VK := Hid.mk_ (Vok.sD true dr k)
      obtain ⟨dk, hdk⟩ : ∃ dk, dk = sD true dr k := ⟨_, rfl⟩
      rw [← hdk] at HD6 VK G1 G2 G3
      obtain ⟨ms, hms⟩ : ∃ ms, ms = (dTick [1] dr dk).2 := ⟨_, rfl⟩
      obtain ⟨dt, hdt⟩ : ∃ dt, dt = (dTick [1] dr dk).1 := ⟨_, rfl⟩
      rw [← hms] at G1 G2
      have HMS := Hid.mk_ hms
      have HDT := Hid.mk_ hdt
      have HN1 : Hid (sD true dr (k + 1) = hAll dt ms) := Hid.mk_ (by rw [sD_succ_true, ← hdk, ← hdt, ← hms])
      have VT : Hid (Vok dt) := Hid.mk_ (by rw [hdt]; exact VK.out.tick)
      have HG1 := Hid.mk_ G1
      have HG2 := Hid.mk_ G2
      have HG4 := Hid.mk_ G4
      clear hdk hms hdt G1 G2 G4
      have l1 : (k : Int) + 2 ≤ 11 := by omega
      go_upto_region 12 with fail
      have al := (Below.refl wr.heap.size wr).alloc (Nat.le_refl _) (.cells #[.int .i64 1] 3)
      have HDa := Hid.mk_ (HD6.out.below al)
      have B7 := Hid.mk_ (B6.out.trans (al.mono B6.out.size))
      have BA := Hid.mk_ al
      have P6 : Hid (Prb.Row (wr.alloc (.cells #[.int .i64 1] 3)) (some ⟨wr.heap.size, 0, none⟩) [1]) := Hid.mk_ (Prb.Row.one wr 1 3)
      have N6 : Hid (∀ b off, some (⟨wr.heap.size, 0, none⟩ : Addr) = some ⟨b, off, none⟩ → 0 < 1 → ¬ S6 b) := Hid.mk_ (fun b off e _ hb => by
        injection e with e
        injection e with e _
        have := HD6.out.blk b hb
        omega)
      clear al
      go_wp2_with (go_at_call 13; refine (tick1 (wr.alloc (.cells #[.int .i64 1] 3)) S6 g dk HDa VK G3 (some ⟨wr.heap.size, 0, none⟩) 1 1 [1] dr P6 N6 hl1 (by decide) (by decide) hdr dt HDT ms HMS).mono ?_; rintro e w8 ⟨v8, T8, rfl, o8, t8⟩; obtain ⟨A8, c8, e8, _, _⟩ := o8.out.form; subst e8)
      generalize hw7 : wr.alloc (.cells #[.int .i64 1] 3) = w7 at *
      clear HDa P6 N6 hw7
      obtain ⟨S8, D8, k8, r8, n8⟩ := t8.out
      have HD8 := Hid.mk_ D8
      have HO8 := o8
      have HN8 := Hid.mk_ n8
      have R8 := Hid.mk_ (DTurn.next R6.out K6.out BA.out ⟨S8, D8, k8, r8⟩)
      have H8 : Hid (∀ i, S8 i → S6 i ∨ w7.heap.size ≤ i) := Hid.mk_ k8
      have RR8 : Hid (Rum.Wr w5 w8 S5) := Hid.mk_ ((R6.out.then_ (Rum.Wr.of_below BA.out (fun _ => False)) (fun _ h => h.elim)).then_ r8 K6.out)
      have KK8 : Hid (∀ i, S8 i → S5 i ∨ w5.heap.size ≤ i) := Hid.mk_ (fun i hi => (k8 i hi).elim (K6.out i) (fun h => .inr (by have := R6.out.size; have := BA.out.size; omega)))
      clear D8 k8 r8 n8 t8 o8
      have hml : ms.length ≤ 5 := HG2.out
      go_loopw [7, 55] (fun a i wq => ∃ j : Nat, a = .int .i64 0 ∧ i = .int .i64 (j : Int) ∧ j ≤ ms.length ∧ Hid (DTurn w8 wq S8 g (hAll dt (ms.take j)))) (fun _ i _ => ms.length - (intOf i).toNat)
      case atStart => exact ⟨0, rfl, rfl, by omega, Hid.mk_ (DTurn.of_below HD8.out (Below.refl _ _))⟩
      case round =>
        obtain ⟨j, rfl, rfl, hj, DU⟩ := hrel
        by_cases hlt2 : j < ms.length
        · obtain ⟨m, hm⟩ : ∃ m, ms[j]? = some m := ⟨_, List.getElem?_eq_getElem hlt2⟩
          obtain ⟨S9, D9, k9, r9⟩ := DU.out
          have HD9 := Hid.mk_ D9
          have K9 := Hid.mk_ k9
          have R9 := Hid.mk_ r9
          obtain ⟨bm, Pm, nm, cm, rfl, _, hbm, Mm, _, _, RGm⟩ := (HO8.out.wr r9 (fun i hi => HN8.out i hi)).mat j m hm
          have HRG := Hid.mk_ RGm
          have hk3 := noReq_at HG1.out hm
          have HTK : Hid (ms.take (j + 1) = ms.take j ++ [m]) := Hid.mk_ (takeO hm)
          clear hm D9 k9 r9 RGm Mm hbm DU
          have l2 : (j : Int) < (ms.length : Int) := by omega
          have l0 : (0 : Int) ≤ (j : Int) := by omega
          obtain ⟨mm, hmm⟩ : ∃ mm, mm = msg m.k m.f m.t m.s m.fo m.ab (.slice Pm nm cm) := ⟨_, rfl⟩
          have HMM := Hid.mk_ hmm
          have HSZ : Hid ((Try.prog.info? 42).map (·.size) = some mm.toList.length) := Hid.mk_ (by rw [hmm]; exact size42)
          have HSZ2 : Hid ((Try.prog.info? 42).map (·.size) = some mm.size) := Hid.mk_ (by rw [hmm]; exact size42)
          have HSZ3 : Hid (zmsg.size = mm.size) := Hid.mk_ (by rw [hmm]; rfl)
          have HONE : Hid (mm.all (·.oneCell') = true) := Hid.mk_ (by rw [hmm]; exact msg_one rfl)
          rw [← hmm] at HRG
          have CB := Hid.mk_ (msg_box wr mm (by rw [hmm]; rfl))
          have ZZ := Hid.mk_ (heap_alloc_new wr (.cells zmsg 42))
          have htl : mm.toList.toArray = mm := Array.toArray_toList
          clear hmm
          go_upto_region 15 with (first
            | (refine wpList_load_mid rfl 42 _ rfl bm (j * 62) rfl _ _ HRG.out Try.underlying42 rfl HSZ.out ?_; rw [htl])
            | (refine wpList_store_row rfl 42 _ _ rfl wr.heap.size mm rfl rfl 42 _ ZZ.out HSZ2.out HSZ3.out HONE.out ?_))
          have BB := Hid.mk_ CB.out.2
          have M0 := Hid.mk_ CB.out.1
          have HD9b := Hid.mk_ (HD9.out.below BB.out)
          clear ZZ CB HD9 HRG HSZ HSZ2 HSZ3 HONE htl
          generalize (wr.alloc (.cells zmsg 42)).setRow wr.heap.size mm = wb at *
          generalize wr.heap.size = z at M0 ⊢
          have y0 : wb.cell? ⟨z, 0, none⟩ = some (.int .i64 m.k) := by rw [cell_of_row wb z 0 _ 42 (0, 0) M0.out, HMM.out]; rfl
          have y3 : wb.cell? ⟨z, 3, none⟩ = some (.int .i64 m.s) := by rw [cell_of_row wb z 3 _ 42 (0, 0) M0.out, HMM.out]; rfl
          have VJ : Hid (Vok (hAll dt (ms.take j))) := Hid.mk_ (Vok.hAll _ VT.out)
          go_wp2_with (go_at_call 10; refine (handle1 wb S9 g (hAll dt (ms.take j)) (msg 2 1 0 m.s 0 0 (.slice none 0 0)) 2 1 0 m.s 0 0 none 0 0 [] HD9b VJ (Hid.mk_ (MsgC.of_msg _ _ _ _ _ _ _ _ _)) (clat_nil wb) (noS S9) nb (by decide) (by decide) _ (Hid.mk_ rfl) _ (Hid.mk_ rfl)).mono ?_; rintro e wc ⟨vc, Tc, rfl, oc, tc⟩)
          go_roundw
          case rel => exact ⟨j + 1, rfl, by go_num, by omega, Hid.mk_ (by rw [HTK.out, hAll_snoc]; exact DTurn.next R9.out K9.out BB.out tc.out.turn)⟩
          case measure => simp [intOf]; omega
        · obtain rfl : j = ms.length := by omega
          have etk : ms.take ms.length = ms := List.take_length
          rw [etk] at DU
          have DN : Hid (DTurn w8 wr S8 g (sD true dr (k + 1))) := Hid.mk_ (by rw [HN1.out]; exact DU.out)
          obtain ⟨SA, DA, kA, rA⟩ := DN.out
          have HDA := Hid.mk_ DA
          have HEND : Hid (DTurn w5 wr S5 g (sD true dr (k + 1))) := Hid.mk_ (DTurn.after RR8.out KK8.out DN.out)
          clear DA kA rA DU DN
          have hw := HG4.out
          have HV : Hid ((.agg #[.int .i64 1, .int .i64 3, .int .i64 (want true k)] : Value) = .agg #[.int .i64 (cOf (sD true dr (k + 1)) 1).n, .int .i64 (cOf (sD true dr (k + 1)) 1).i, .int .i64 (cOf (sD true dr (k + 1)) 1).h]) := Hid.mk_ (by rw [hw])
          clear hw
          have HW : want true k = 1 := rfl
          rw [HW] at HV
          go_wp2_with (go_at_call 14; refine (ofD wr SA g (sD true dr (k + 1)) 1 HDA _ HV).mono ?_; rintro e wd ⟨rfl, bd⟩)
          go_roundw
          case rel => exact ⟨k + 1, rfl, by go_num, by omega, Hid.mk_ (HEND.out.trans fun S hS => DTurn.of_below hS (bd.alloc bd.size _))⟩
          case measure => simp [intOf]; omega
    · obtain rfl : k = 10 := by omega
      have l1 : ¬ ((10 : Nat) : Int) + 2 ≤ 11 := by decide
      have hb12 : decide (((10 : Nat) : Int) + 2 ≤ 11) = false := by decide
      go_wp2_with (go_at_call 11; refine (awake _).mono ?_; rintro e w9 ⟨rfl, b9⟩)
      go_ret
      exact ⟨rfl, B6.out.trans (b9.mono B6.out.size)⟩
theorem law (w : World) (dr : Int) (b : Bool) (hdr : 0 ≤ dr) : Calls Try.prog 4 #[.int .u64 dr, .bool b] w fun e w' => e = .returned (.bool true) ∧ Below w.heap.size w w' := by
  cases b with
  | false => exact lawfalse w dr (Hid.mk_ hdr)
  | true => exact lawtrue w dr (Hid.mk_ hdr)
theorem walk (w : World) (u : Int) (hu : (Lit.int .u64 u).wf = true) (b : Bool) : Calls Try.prog 4 #[.int .u64 u, .bool b] w fun e w' => e = .returned (.bool true) ∧ Below w.heap.size w w' :=
  law w u b (by simp [Lit.wf] at hu; have h0 : IntKind.u64.min = 0 := rfl; omega)
end Go.Proofs.Ythndjhocmpelcaa.WSwimDoubts
