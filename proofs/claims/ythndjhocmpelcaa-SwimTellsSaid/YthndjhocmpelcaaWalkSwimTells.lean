/- SwimTells: the walk of the law: who gets a message that doubts it refutes, and its answer is believed. No condition. -/
import Derived.Test.YthndjhocmpelcaaLc
namespace Go.Proofs.Ythndjhocmpelcaa.WSwimTells
open Go.RowKit Kit Tri3 Swi
set_option linter.unusedVariables false
set_option maxRecDepth 100000 in
set_option maxHeartbeats 16000000 in
theorem lawfalse (w : World) (a0 i dr : Int) (ey : wrap64 ((IntKind.u64.wrap a0).tmod 1000) = i) (hi : Hid (0 ≤ i ∧ i < 1000)) (hdr : Hid (0 ≤ dr)) : Calls Try.prog 5 #[.int .i64 a0, .bool false, .int .u64 dr] w fun e w' => e = .returned (.bool true) ∧ Below w.heap.size w w' := by
  have h00 : Hid ((0 : Int) ≤ 0 ∧ (0 : Int) ≤ 7) := Hid.mk_ (by decide)
  have h11 : Hid ((0 : Int) ≤ 1 ∧ (1 : Int) ≤ 7) := Hid.mk_ (by decide)
  have h03 : Hid ((0 : Int) ≤ 3 ∧ (3 : Int) ≤ 1000000) := Hid.mk_ (by decide)
  have h0i : Hid (0 ≤ i ∧ i ≤ 1000000) := Hid.mk_ (by have := hi.out; omega)
  obtain ⟨F1, F2, F3, F4, F5⟩ := tells dr i 2 hi.out (by decide)
  have G1 := Hid.mk_ F1
  have G2 := Hid.mk_ F2
  have G3 := Hid.mk_ F3
  have G4 := Hid.mk_ F4
  have G5 := Hid.mk_ F5
  clear F1 F2 F3 F4 F5
  go_enter Try.func5, Try.ntmps5
  go_upto_region 2 with fail
  try rw [ey]
  clear ey
  have HW1 : Hid (wrap64 (i + 1) = i + 1) := Hid.mk_ (by have := hi.out; unfold wrap64; omega)
  go_upto_region 3 with (first
    | (go_at_call 9; have _t := D1; refine (newD _ 1 i h11 h0i).mono ?_; rintro e w2 ⟨g2, S2, rfl, D2, H2, b2⟩)
    | (go_at_call 9; refine (newD _ 0 3 h00 h03).mono ?_; rintro e w1 ⟨g1, S1, rfl, D1, H1, b1⟩))
  have Q12 : Hid ((∀ k, S1 k → k < w1.heap.size ∧ w.heap.size ≤ k) ∧ ∀ k, S2 k → w1.heap.size ≤ k ∧ k < w2.heap.size) := Hid.mk_ ⟨fun k hk => ⟨D1.out.blk k hk, H1.out k hk⟩, fun k hk => ⟨H2.out k hk, D2.out.blk k hk⟩⟩
  have B2 := Hid.mk_ (b1.trans (b2.mono b1.size))
  have L12 : Hid (w1.heap.size ≤ w2.heap.size) := Hid.mk_ b2.size
  have B2s : Hid (w.heap.size ≤ w1.heap.size) := Hid.mk_ b1.size
  have al := (Below.refl w2.heap.size w2).alloc (Nat.le_refl _) (.cells #[.int .i64 1, .int .i64 i, .int .i64 2] 48)
  have BX2 := Rum.Box3.made w2 1 i 2
  have D13 := Hid.mk_ ((D1.out.below b2).below al)
  have D23 := Hid.mk_ (D2.out.below al)
  have B3 := Hid.mk_ (B2.out.trans (al.mono B2.out.size))
  have BX3 := Hid.mk_ BX2
  have SZ3 : Hid ((w2.alloc (.cells #[.int .i64 1, .int .i64 i, .int .i64 2] 48)).heap.size = w2.heap.size + 1) := Hid.mk_ (by simp)
  go_upto_region 6 with fail
  clear al BX2 D1 D2 H1 H2 b1 b2 B2
  generalize w2.alloc (.cells #[.int .i64 1, .int .i64 i, .int .i64 2] 48) = w3 at *
  obtain ⟨z, hz⟩ : ∃ z, z = w2.heap.size := ⟨_, rfl⟩
  rw [← hz] at BX3 ⊢
  have HZ := Hid.mk_ hz
  clear hz
  have BX4 := BX3
  have D14 := D13
  have D24 := D23
  have B4 := B3
  have L4 : Hid (w2.heap.size < w3.heap.size) := Hid.mk_ (by have := SZ3.out; omega)
  clear BX3 D13 D23 B3
  obtain ⟨w4, hw4⟩ : ∃ w4, w4 = w3 := ⟨_, rfl⟩
  rw [← hw4] at BX4 D14 D24 B4 L4 ⊢
  clear hw4
  obtain ⟨x0, x1, x2, _, _, _⟩ := BX4.out
  obtain ⟨aa, haa⟩ : ∃ aa, aa = dHear (dNew 0 3) ⟨1, i, 2⟩ := ⟨_, rfl⟩
  have HAA := Hid.mk_ haa
  have VA : Hid (Vok aa) := Hid.mk_ (by rw [haa]; exact (Vok.new 0 3).hear _)
  have NA : aa.now < 1000000 := by rw [haa, (hear_kp _ _).now]; show (0 : Int) < 1000000; decide
  have G1a : Hid ((dTick [1] dr aa).2 = [⟨1, 0, 1, 1, 0, 0, tM i 2⟩]) := Hid.mk_ (by rw [haa]; exact G1.out)
  have G5a : Hid (cOf (dHandle (dTick [1] dr aa).1 2 1 0 1 0 0 (tK i)) 1 = ⟨1, i + 1, 1⟩) := Hid.mk_ (by rw [haa]; exact G5.out)
  clear haa G1 G5
  go_upto_region 7 with (go_at_call 12; refine (hear1 w4 S1 g1 (dNew 0 3) ⟨1, i, 2⟩ D14 aa HAA _ (Hid.mk_ rfl)).mono ?_; rintro e w5 ⟨rfl, t5⟩)
  obtain ⟨S5, D5, k5, r5⟩ := t5.out
  have D15 := Hid.mk_ D5
  have Q5 : Hid (∀ k, S5 k → (S1 k ∨ w4.heap.size ≤ k) ∧ w.heap.size ≤ k ∧ ¬ k = z) := Hid.mk_ (fun k hk => by
    have hs := L4.out
    have h12 := L12.out
    have hb := B4.out.size
    rcases k5 k hk with h | h
    · have h9 := Q12.out.1 k h; have := HZ.out; exact ⟨.inl h, h9.2, by omega⟩
    · exact ⟨.inr h, by omega, by have := HZ.out; omega⟩)
  have D25 := Hid.mk_ (D24.out.wr r5 (fun k hk h => by have := Q12.out.1 k h; have := Q12.out.2 k hk; omega))
  have B5 := Hid.mk_ (B4.out.trans (r5.below B4.out.size (fun k hk => (Q12.out.1 k hk).2)))
  have BX5 := Hid.mk_ (box3w BX4.out r5 (fun h => by have := Q12.out.1 z h; have := HZ.out; have := L12.out; omega))
  have L5 : Hid (w4.heap.size ≤ w5.heap.size) := Hid.mk_ r5.size
  clear D5 k5 r5 t5 x0 x1 x2 BX4 D14 D24
  have al := (Below.refl w5.heap.size w5).alloc (Nat.le_refl _) (.cells #[.int .i64 1] 3)
  have D16 := Hid.mk_ (D15.out.below al)
  have D26 := Hid.mk_ (D25.out.below al)
  have B6 := Hid.mk_ (B5.out.trans (al.mono B5.out.size))
  have BX6 := Hid.mk_ (box3k BX5.out al)
  have P6 : Hid (Prb.Row (w5.alloc (.cells #[.int .i64 1] 3)) (some ⟨w5.heap.size, 0, none⟩) [1]) := Hid.mk_ (Prb.Row.one w5 1 3)
  have N6 : Hid (∀ b off, some (⟨w5.heap.size, 0, none⟩ : Addr) = some ⟨b, off, none⟩ → 0 < 1 → ¬ S5 b) := Hid.mk_ (fun b off e _ hb => by
    injection e with e
    injection e with e _
    have := D15.out.blk b hb
    omega)
  have hl1 : Hid ((1 : Nat) = [(1 : Int)].length) := Hid.mk_ rfl
  have L6 : Hid (w5.heap.size ≤ (w5.alloc (.cells #[.int .i64 1] 3)).heap.size) := Hid.mk_ al.size
  clear al D15 D25 BX5
  obtain ⟨ta, hta⟩ : ∃ ta, ta = (dTick [1] dr aa).1 := ⟨_, rfl⟩
  have HTA := Hid.mk_ hta
  have VT : Hid (Vok ta) := Hid.mk_ (by rw [hta]; exact VA.out.tick)
  rw [← hta] at G5a
  have G1b := Hid.mk_ G1a.out.symm
  clear hta
  go_upto_region 8 with (go_at_call 13; refine (tick1 (w5.alloc (.cells #[.int .i64 1] 3)) S5 g1 aa D16 VA NA (some ⟨w5.heap.size, 0, none⟩) 1 1 [1] dr P6 N6 hl1 (by decide) (by decide) hdr ta HTA [⟨1, 0, 1, 1, 0, 0, tM i 2⟩] G1b).mono ?_; rintro e w7 ⟨v7, T7, rfl, o7, t7⟩)
  generalize w5.alloc (.cells #[.int .i64 1] 3) = w6 at *
  obtain ⟨A7, c7, e7, _, _⟩ := o7.out.form
  have e8 : v7 = .slice A7 1 c7 := e7
  subst e8
  clear e7
  obtain ⟨b, P, np, cp, rfl, hT, hb, M, CL, hP, RG⟩ := o7.out.mat 0 _ rfl
  obtain ⟨S7, D7, k7, r7, n7⟩ := t7.out
  have D17 := Hid.mk_ D7
  have Q7 : Hid (∀ k, S7 k → (S1 k ∨ w4.heap.size ≤ k) ∧ w.heap.size ≤ k) := Hid.mk_ (fun k hk => by
    rcases k7 k hk with h | h
    · exact ⟨(Q5.out k h).1, (Q5.out k h).2.1⟩
    · have := L5.out; have := L6.out; have := B4.out.size; exact ⟨.inr (by omega), by omega⟩)
  have S7b := Hid.mk_ D7.blk
  have D27 := Hid.mk_ (D26.out.wr r7 (fun k hk h => by
    have h2 := Q12.out.2 k hk
    rcases (Q5.out k h).1 with h1 | h1
    · have := Q12.out.1 k h1; omega
    · have := L4.out; omega))
  have B7 := Hid.mk_ (B6.out.trans (r7.below B6.out.size (fun k hk => (Q5.out k hk).2.1)))
  have BX7 := Hid.mk_ (box3w BX6.out r7 (fun h => (Q5.out z h).2.2 rfl))
  have TT : Hid (∀ j, T7 j → w2.heap.size ≤ j) := Hid.mk_ (fun j hj => by have := (o7.out.2.2 j hj).1; have := L4.out; have := L5.out; have := L6.out; omega)
  have HCL := Hid.mk_ CL
  have HRG := Hid.mk_ RG
  have HNP : Hid (np = 3 ∧ np ≤ cp ∧ cp ≤ 9223372036854775807) := Hid.mk_ ⟨M.len, M.cap, M.max⟩
  have np3 : np = 3 := M.len
  subst np3
  have hcp3 : 3 ≤ cp := M.cap
  have PN : Hid (∀ x off, P = some ⟨x, off, none⟩ → 0 < 3 → ¬ S2 x) := Hid.mk_ (fun x off e _ h => by have := TT.out x (hP x off e); have := Q12.out.2 x h; omega)
  obtain ⟨b', off', eP, hb', p0, p1, p2⟩ := CL 0 ⟨0, 3, 1⟩ rfl
  obtain ⟨b'', off'', eP', _, p3, p4, p5⟩ := CL 1 ⟨1, i, 2⟩ rfl
  rw [eP] at eP'
  injection eP' with eP'
  injection eP' with e1 e2
  subst e1 e2
  subst eP
  have q61 : w7.cell? ⟨b, 61, none⟩ = some (.slice (some ⟨b', off', none⟩) 3 cp) := M.c61
  have q0 : w7.cell? ⟨b', off', none⟩ = some (.int .i64 0) := p0
  have q1 : w7.cell? ⟨b', off' + 1, none⟩ = some (.int .i64 3) := p1
  have q2 : w7.cell? ⟨b', off' + 2, none⟩ = some (.int .i64 1) := p2
  have q3 : w7.cell? ⟨b', off' + 3, none⟩ = some (.int .i64 1) := p3
  have q4 : w7.cell? ⟨b', off' + 4, none⟩ = some (.int .i64 i) := p4
  have q5 : w7.cell? ⟨b', off' + 5, none⟩ = some (.int .i64 2) := p5
  obtain ⟨x0, x1, x2, _, _, _⟩ := BX7.out
  have lz := BX7.out.lt
  clear D7 k7 r7 n7 t7 CL RG M hP hT p0 p1 p2 p3 p4 p5 D16 D26 BX6 B6 P6 N6 o7
  have ne1 := neq48_self 0 3 1
  have ne2 := neq48_self 1 i 2
  refine wp_draws _ (Below.refl _ _) (by kernel_rfl) (by kernel_rfl) (fun hne hN => ?_)
  repeat (go_big_quiet_step (fail))
  refine wpQuiet_nil (after_cells ?_)
  intro w8 b8 hc8
  have D18 := Hid.mk_ (D17.out.below b8)
  have D28 := Hid.mk_ (D27.out.below b8)
  have B8 := Hid.mk_ (B7.out.trans (b8.mono B7.out.size))
  have HCL8 := Hid.mk_ (HCL.out.keep b8)
  have HRG8 : Hid (w8.rangeAt b 0 (msg 1 0 1 1 0 0 (.slice (some ⟨b', off', none⟩) 3 cp)).toList) := Hid.mk_ (range_keep HRG.out (fun h => b8.block b h))
  have L8 : Hid (w7.heap.size ≤ w8.heap.size) := Hid.mk_ b8.size
  clear hne hN hc8 b8 q61 q0 q1 q2 q3 q4 q5 x0 x1 x2 lz ne1 ne2 hb hb' D17 D27 B7 HCL HRG
  have VB : Hid (Vok (dNew 1 i)) := Hid.mk_ (Vok.new 1 i)
  have n3 : Hid (3 = (tM i 2).length) := Hid.mk_ rfl
  obtain ⟨tb, htb⟩ : ∃ tb, tb = tB i 2 := ⟨_, rfl⟩
  have HTB : Hid (tb = dHandle (dNew 1 i) 1 0 1 1 0 0 (tM i 2)) := Hid.mk_ (by rw [htb]; rfl)
  rw [← htb] at G3 G4
  clear htb
  have G2b := Hid.mk_ G2.out.symm
  have HMC : Hid (MsgC (msg 1 0 1 1 0 0 (.slice (some ⟨b', off', none⟩) 3 cp)).toList.toArray 1 0 1 1 0 0 (.slice (some ⟨b', off', none⟩) 3 cp)) := Hid.mk_ (by rw [Array.toArray_toList]; exact MsgC.of_msg _ _ _ _ _ _ _ _ _)
  have hcpm : cp ≤ 9223372036854775807 := HNP.out.2.2
  go_upto_region 11 with (first
    | (refine wpList_load_mid rfl 42 _ rfl b 0 rfl _ _ HRG8.out Try.underlying42 rfl size42 ?_)
    | (go_at_call 10; refine (handle1 w8 S2 g2 (dNew 1 i) _ 1 0 1 1 0 0 (some ⟨b', off', none⟩) 3 cp (tM i 2) D28 VB HMC HCL8 PN n3 hcp3 hcpm tb HTB [⟨2, 1, 0, 1, 0, 0, tK i⟩] G2b).mono ?_; rintro e w9 ⟨v9, T9, rfl, o9, t9⟩))
  obtain ⟨A9, c9, e9, _, _⟩ := o9.out.form
  have e10 : v9 = .slice A9 1 c9 := e9
  subst e10
  clear e9
  obtain ⟨bk, Pk, nk, ck, rfl, hTk, hbk, Mk, CLk, hPk, RGk⟩ := o9.out.mat 0 _ rfl
  obtain ⟨S9, D9, k9, r9, n9⟩ := t9.out
  have D29 := Hid.mk_ D9
  have Q9 : Hid (∀ k, S9 k → w.heap.size ≤ k) := Hid.mk_ (fun k hk => (k9 k hk).elim (fun h => Nat.le_trans (Nat.le_trans (by have := B2s.out; omega) (Q12.out.2 k h).1) (Nat.le_refl _)) (fun h => Nat.le_trans B8.out.size h))
  have D19 := Hid.mk_ (D18.out.wr r9 (fun k hk h => by
    have h2 := Q12.out.2 k h
    rcases (Q7.out k hk).1 with h1 | h1
    · have := Q12.out.1 k h1; omega
    · have := L4.out; omega))
  have B9 := Hid.mk_ (B8.out.trans (r9.below B8.out.size (fun k hk => by have := (Q12.out.2 k hk).1; have := B2s.out; omega)))
  have NN : Hid (∀ k, S9 k → ¬ S7 k) := Hid.mk_ (fun k hk h => by
    rcases k9 k hk with h1 | h1
    · have h2 := Q12.out.2 k h1
      rcases (Q7.out k h).1 with h3 | h3
      · have := Q12.out.1 k h3; omega
      · have := L4.out; omega
    · have := S7b.out k h; have := L8.out; omega)
  have TK : Hid (∀ j, T9 j → w7.heap.size ≤ j) := Hid.mk_ (fun j hj => by have := (o9.out.2.2 j hj).1; have := L8.out; omega)
  have PK : Hid (∀ x off, Pk = some ⟨x, off, none⟩ → 0 < 3 → ¬ S7 x) := Hid.mk_ (fun x off e _ h => by have := TK.out x (hPk x off e); have := S7b.out x h; omega)
  have nk3 : nk = 3 := Mk.len
  subst nk3
  have hck3 : 3 ≤ ck := Mk.cap
  have hckm : ck ≤ 9223372036854775807 := Mk.max
  have HCK := Hid.mk_ CLk
  have HRK : Hid (w9.rangeAt bk 0 (msg 2 1 0 1 0 0 (.slice Pk 3 ck)).toList) := Hid.mk_ RGk
  have HMK : Hid (MsgC (msg 2 1 0 1 0 0 (.slice Pk 3 ck)).toList.toArray 2 1 0 1 0 0 (.slice Pk 3 ck)) := Hid.mk_ (by rw [Array.toArray_toList]; exact MsgC.of_msg _ _ _ _ _ _ _ _ _)
  have n3k : Hid (3 = (tK i).length) := Hid.mk_ rfl
  have HI : Hid (i + 1 = tb.inc) := Hid.mk_ G3.out.symm
  obtain ⟨tc, htc⟩ : ∃ tc, tc = dHandle ta 2 1 0 1 0 0 (tK i) := ⟨_, rfl⟩
  have HTC := Hid.mk_ htc
  rw [← htc] at G5a
  clear htc CLk RGk Mk hPk hTk D9 k9 n9 t9 o9 D18 D28 B8 HCL8 HRG8 hbk
  have hec := G5a.out
  have HV1 : Hid ((.agg #[.int .i64 1, .int .i64 (i + 1), .int .i64 1] : Value) = .agg #[.int .i64 (cOf tc 1).n, .int .i64 (cOf tc 1).i, .int .i64 (cOf tc 1).h]) := Hid.mk_ (by rw [hec])
  clear hec
  have hs3 := G4.out
  have eqq := eql48_self 1 (i + 1) 1
  have hw1 := HW1.out
  have fl1 := fld1
  go_wp2_with (first
    | (go_at_call 15; refine (inc0 w9 S9 g2 tb D29 (i + 1) HI).mono ?_; rintro e w10 ⟨rfl, e10⟩; have e11 := e10.symm; subst e11)
    | (refine wpList_load_mid rfl 42 _ rfl bk 0 rfl _ _ HRK.out Try.underlying42 rfl size42 ?_)
    | (go_at_call 10; refine (handle1 w9 S7 g1 ta _ 2 1 0 1 0 0 Pk 3 ck (tK i) D19 VT HMK HCK PK n3k hck3 hckm tc HTC _ (Hid.mk_ rfl)).mono ?_; rintro e w11 ⟨v11, T11, rfl, o11, t11⟩; obtain ⟨S11, D11, k11, r11, n11⟩ := t11.out; have HD11 := Hid.mk_ D11)
    | (go_at_call 14; refine (ofD w12 S9 g2 tb 0 HD12 _ (Hid.mk_ rfl)).mono ?_; rintro e w13 ⟨rfl, b13⟩)
    | (go_at_call 14; refine (ofD w11 S11 g1 tc 1 HD11 _ HV1).mono ?_; rintro e w12 ⟨rfl, b12⟩; have HD12 := Hid.mk_ ((D29.out.wr r11 (fun k hk h => NN.out k hk h)).below b12))
    | (go_at_call 11; refine (awake _).mono ?_; rintro e w14 ⟨rfl, b14⟩))
  go_ret
  have B11 := B9.out.trans (r11.below B9.out.size (fun k hk => (Q7.out k hk).2))
  have B12 := B11.trans (b12.mono B11.size)
  have B13 := B12.trans (b13.mono B12.size)
  exact ⟨rfl, B13.trans (b14.mono B13.size)⟩
set_option maxRecDepth 100000 in
set_option maxHeartbeats 16000000 in
theorem lawtrue (w : World) (a0 i dr : Int) (ey : wrap64 ((IntKind.u64.wrap a0).tmod 1000) = i) (hi : Hid (0 ≤ i ∧ i < 1000)) (hdr : Hid (0 ≤ dr)) : Calls Try.prog 5 #[.int .i64 a0, .bool true, .int .u64 dr] w fun e w' => e = .returned (.bool true) ∧ Below w.heap.size w w' := by
  have h00 : Hid ((0 : Int) ≤ 0 ∧ (0 : Int) ≤ 7) := Hid.mk_ (by decide)
  have h11 : Hid ((0 : Int) ≤ 1 ∧ (1 : Int) ≤ 7) := Hid.mk_ (by decide)
  have h03 : Hid ((0 : Int) ≤ 3 ∧ (3 : Int) ≤ 1000000) := Hid.mk_ (by decide)
  have h0i : Hid (0 ≤ i ∧ i ≤ 1000000) := Hid.mk_ (by have := hi.out; omega)
  obtain ⟨F1, F2, F3, F4, F5⟩ := tells dr i 3 hi.out (by decide)
  have G1 := Hid.mk_ F1
  have G2 := Hid.mk_ F2
  have G3 := Hid.mk_ F3
  have G4 := Hid.mk_ F4
  have G5 := Hid.mk_ F5
  clear F1 F2 F3 F4 F5
  go_enter Try.func5, Try.ntmps5
  go_upto_region 2 with fail
  try rw [ey]
  clear ey
  have HW1 : Hid (wrap64 (i + 1) = i + 1) := Hid.mk_ (by have := hi.out; unfold wrap64; omega)
  go_upto_region 3 with (first
    | (go_at_call 9; have _t := D1; refine (newD _ 1 i h11 h0i).mono ?_; rintro e w2 ⟨g2, S2, rfl, D2, H2, b2⟩)
    | (go_at_call 9; refine (newD _ 0 3 h00 h03).mono ?_; rintro e w1 ⟨g1, S1, rfl, D1, H1, b1⟩))
  have Q12 : Hid ((∀ k, S1 k → k < w1.heap.size ∧ w.heap.size ≤ k) ∧ ∀ k, S2 k → w1.heap.size ≤ k ∧ k < w2.heap.size) := Hid.mk_ ⟨fun k hk => ⟨D1.out.blk k hk, H1.out k hk⟩, fun k hk => ⟨H2.out k hk, D2.out.blk k hk⟩⟩
  have B2 := Hid.mk_ (b1.trans (b2.mono b1.size))
  have L12 : Hid (w1.heap.size ≤ w2.heap.size) := Hid.mk_ b2.size
  have B2s : Hid (w.heap.size ≤ w1.heap.size) := Hid.mk_ b1.size
  have al := (Below.refl w2.heap.size w2).alloc (Nat.le_refl _) (.cells #[.int .i64 1, .int .i64 i, .int .i64 2] 48)
  have BX2 := Rum.Box3.made w2 1 i 2
  have D13 := Hid.mk_ ((D1.out.below b2).below al)
  have D23 := Hid.mk_ (D2.out.below al)
  have B3 := Hid.mk_ (B2.out.trans (al.mono B2.out.size))
  have BX3 := Hid.mk_ BX2
  have SZ3 : Hid ((w2.alloc (.cells #[.int .i64 1, .int .i64 i, .int .i64 2] 48)).heap.size = w2.heap.size + 1) := Hid.mk_ (by simp)
  go_upto_region 5 with fail
  clear al BX2 D1 D2 H1 H2 b1 b2 B2
  generalize w2.alloc (.cells #[.int .i64 1, .int .i64 i, .int .i64 2] 48) = w3 at *
  obtain ⟨z, hz⟩ : ∃ z, z = w2.heap.size := ⟨_, rfl⟩
  rw [← hz] at BX3 ⊢
  have HZ := Hid.mk_ hz
  clear hz
  obtain ⟨x0, x1, x2, f0, f1, f2⟩ := BX3.out
  go_upto_region 6 with fail
  have ws := Rum.Wr.set w3 z 2 (.int .i64 3)
  have BX4 : Hid (Rum.Box3 (w3.setCell ⟨z, 2, none⟩ (.int .i64 3)) z 1 i 3) := Hid.mk_ ⟨(World.cell?_setCell_other _ _ _ _ (by simp)).trans x0, (World.cell?_setCell_other _ _ _ _ (by simp)).trans x1, World.cell?_setCell_same _ _ _ x2, (World.frozen?_setCell _ _ _ _).trans f0, (World.frozen?_setCell _ _ _ _).trans f1, (World.frozen?_setCell _ _ _ _).trans f2⟩
  have D14 := Hid.mk_ (D13.out.wr ws (fun k hk e => by have := Q12.out.1 k hk; have := HZ.out; have := L12.out; omega))
  have D24 := Hid.mk_ (D23.out.wr ws (fun k hk e => by have := Q12.out.2 k hk; have := HZ.out; omega))
  have B4 := Hid.mk_ (B3.out.trans (ws.below B3.out.size (fun k hk => by have := HZ.out; have := B2s.out; have := L12.out; omega)))
  have L4 : Hid (w2.heap.size < (w3.setCell ⟨z, 2, none⟩ (.int .i64 3)).heap.size) := Hid.mk_ (by have := SZ3.out; have := ws.size; omega)
  clear x0 x1 x2 f0 f1 f2 ws BX3 D13 D23 B3
  generalize w3.setCell ⟨z, 2, none⟩ (.int .i64 3) = w4 at *
  obtain ⟨x0, x1, x2, _, _, _⟩ := BX4.out
  obtain ⟨aa, haa⟩ : ∃ aa, aa = dHear (dNew 0 3) ⟨1, i, 3⟩ := ⟨_, rfl⟩
  have HAA := Hid.mk_ haa
  have VA : Hid (Vok aa) := Hid.mk_ (by rw [haa]; exact (Vok.new 0 3).hear _)
  have NA : aa.now < 1000000 := by rw [haa, (hear_kp _ _).now]; show (0 : Int) < 1000000; decide
  have G1a : Hid ((dTick [1] dr aa).2 = [⟨1, 0, 1, 1, 0, 0, tM i 3⟩]) := Hid.mk_ (by rw [haa]; exact G1.out)
  have G5a : Hid (cOf (dHandle (dTick [1] dr aa).1 2 1 0 1 0 0 (tK i)) 1 = ⟨1, i + 1, 1⟩) := Hid.mk_ (by rw [haa]; exact G5.out)
  clear haa G1 G5
  go_upto_region 7 with (go_at_call 12; refine (hear1 w4 S1 g1 (dNew 0 3) ⟨1, i, 3⟩ D14 aa HAA _ (Hid.mk_ rfl)).mono ?_; rintro e w5 ⟨rfl, t5⟩)
  obtain ⟨S5, D5, k5, r5⟩ := t5.out
  have D15 := Hid.mk_ D5
  have Q5 : Hid (∀ k, S5 k → (S1 k ∨ w4.heap.size ≤ k) ∧ w.heap.size ≤ k ∧ ¬ k = z) := Hid.mk_ (fun k hk => by
    have hs := L4.out
    have h12 := L12.out
    have hb := B4.out.size
    rcases k5 k hk with h | h
    · have h9 := Q12.out.1 k h; have := HZ.out; exact ⟨.inl h, h9.2, by omega⟩
    · exact ⟨.inr h, by omega, by have := HZ.out; omega⟩)
  have D25 := Hid.mk_ (D24.out.wr r5 (fun k hk h => by have := Q12.out.1 k h; have := Q12.out.2 k hk; omega))
  have B5 := Hid.mk_ (B4.out.trans (r5.below B4.out.size (fun k hk => (Q12.out.1 k hk).2)))
  have BX5 := Hid.mk_ (box3w BX4.out r5 (fun h => by have := Q12.out.1 z h; have := HZ.out; have := L12.out; omega))
  have L5 : Hid (w4.heap.size ≤ w5.heap.size) := Hid.mk_ r5.size
  clear D5 k5 r5 t5 x0 x1 x2 BX4 D14 D24
  have al := (Below.refl w5.heap.size w5).alloc (Nat.le_refl _) (.cells #[.int .i64 1] 3)
  have D16 := Hid.mk_ (D15.out.below al)
  have D26 := Hid.mk_ (D25.out.below al)
  have B6 := Hid.mk_ (B5.out.trans (al.mono B5.out.size))
  have BX6 := Hid.mk_ (box3k BX5.out al)
  have P6 : Hid (Prb.Row (w5.alloc (.cells #[.int .i64 1] 3)) (some ⟨w5.heap.size, 0, none⟩) [1]) := Hid.mk_ (Prb.Row.one w5 1 3)
  have N6 : Hid (∀ b off, some (⟨w5.heap.size, 0, none⟩ : Addr) = some ⟨b, off, none⟩ → 0 < 1 → ¬ S5 b) := Hid.mk_ (fun b off e _ hb => by
    injection e with e
    injection e with e _
    have := D15.out.blk b hb
    omega)
  have hl1 : Hid ((1 : Nat) = [(1 : Int)].length) := Hid.mk_ rfl
  have L6 : Hid (w5.heap.size ≤ (w5.alloc (.cells #[.int .i64 1] 3)).heap.size) := Hid.mk_ al.size
  clear al D15 D25 BX5
  obtain ⟨ta, hta⟩ : ∃ ta, ta = (dTick [1] dr aa).1 := ⟨_, rfl⟩
  have HTA := Hid.mk_ hta
  have VT : Hid (Vok ta) := Hid.mk_ (by rw [hta]; exact VA.out.tick)
  rw [← hta] at G5a
  have G1b := Hid.mk_ G1a.out.symm
  clear hta
  go_upto_region 8 with (go_at_call 13; refine (tick1 (w5.alloc (.cells #[.int .i64 1] 3)) S5 g1 aa D16 VA NA (some ⟨w5.heap.size, 0, none⟩) 1 1 [1] dr P6 N6 hl1 (by decide) (by decide) hdr ta HTA [⟨1, 0, 1, 1, 0, 0, tM i 3⟩] G1b).mono ?_; rintro e w7 ⟨v7, T7, rfl, o7, t7⟩)
  generalize w5.alloc (.cells #[.int .i64 1] 3) = w6 at *
  obtain ⟨A7, c7, e7, _, _⟩ := o7.out.form
  have e8 : v7 = .slice A7 1 c7 := e7
  subst e8
  clear e7
  obtain ⟨b, P, np, cp, rfl, hT, hb, M, CL, hP, RG⟩ := o7.out.mat 0 _ rfl
  obtain ⟨S7, D7, k7, r7, n7⟩ := t7.out
  have D17 := Hid.mk_ D7
  have Q7 : Hid (∀ k, S7 k → (S1 k ∨ w4.heap.size ≤ k) ∧ w.heap.size ≤ k) := Hid.mk_ (fun k hk => by
    rcases k7 k hk with h | h
    · exact ⟨(Q5.out k h).1, (Q5.out k h).2.1⟩
    · have := L5.out; have := L6.out; have := B4.out.size; exact ⟨.inr (by omega), by omega⟩)
  have S7b := Hid.mk_ D7.blk
  have D27 := Hid.mk_ (D26.out.wr r7 (fun k hk h => by
    have h2 := Q12.out.2 k hk
    rcases (Q5.out k h).1 with h1 | h1
    · have := Q12.out.1 k h1; omega
    · have := L4.out; omega))
  have B7 := Hid.mk_ (B6.out.trans (r7.below B6.out.size (fun k hk => (Q5.out k hk).2.1)))
  have BX7 := Hid.mk_ (box3w BX6.out r7 (fun h => (Q5.out z h).2.2 rfl))
  have TT : Hid (∀ j, T7 j → w2.heap.size ≤ j) := Hid.mk_ (fun j hj => by have := (o7.out.2.2 j hj).1; have := L4.out; have := L5.out; have := L6.out; omega)
  have HCL := Hid.mk_ CL
  have HRG := Hid.mk_ RG
  have HNP : Hid (np = 3 ∧ np ≤ cp ∧ cp ≤ 9223372036854775807) := Hid.mk_ ⟨M.len, M.cap, M.max⟩
  have np3 : np = 3 := M.len
  subst np3
  have hcp3 : 3 ≤ cp := M.cap
  have PN : Hid (∀ x off, P = some ⟨x, off, none⟩ → 0 < 3 → ¬ S2 x) := Hid.mk_ (fun x off e _ h => by have := TT.out x (hP x off e); have := Q12.out.2 x h; omega)
  obtain ⟨b', off', eP, hb', p0, p1, p2⟩ := CL 0 ⟨0, 3, 1⟩ rfl
  obtain ⟨b'', off'', eP', _, p3, p4, p5⟩ := CL 1 ⟨1, i, 3⟩ rfl
  rw [eP] at eP'
  injection eP' with eP'
  injection eP' with e1 e2
  subst e1 e2
  subst eP
  have q61 : w7.cell? ⟨b, 61, none⟩ = some (.slice (some ⟨b', off', none⟩) 3 cp) := M.c61
  have q0 : w7.cell? ⟨b', off', none⟩ = some (.int .i64 0) := p0
  have q1 : w7.cell? ⟨b', off' + 1, none⟩ = some (.int .i64 3) := p1
  have q2 : w7.cell? ⟨b', off' + 2, none⟩ = some (.int .i64 1) := p2
  have q3 : w7.cell? ⟨b', off' + 3, none⟩ = some (.int .i64 1) := p3
  have q4 : w7.cell? ⟨b', off' + 4, none⟩ = some (.int .i64 i) := p4
  have q5 : w7.cell? ⟨b', off' + 5, none⟩ = some (.int .i64 3) := p5
  obtain ⟨x0, x1, x2, _, _, _⟩ := BX7.out
  have lz := BX7.out.lt
  clear D7 k7 r7 n7 t7 CL RG M hP hT p0 p1 p2 p3 p4 p5 D16 D26 BX6 B6 P6 N6 o7
  have ne1 := neq48_self 0 3 1
  have ne2 := neq48_self 1 i 3
  refine wp_draws _ (Below.refl _ _) (by kernel_rfl) (by kernel_rfl) (fun hne hN => ?_)
  repeat (go_big_quiet_step (fail))
  refine wpQuiet_nil (after_cells ?_)
  intro w8 b8 hc8
  have D18 := Hid.mk_ (D17.out.below b8)
  have D28 := Hid.mk_ (D27.out.below b8)
  have B8 := Hid.mk_ (B7.out.trans (b8.mono B7.out.size))
  have HCL8 := Hid.mk_ (HCL.out.keep b8)
  have HRG8 : Hid (w8.rangeAt b 0 (msg 1 0 1 1 0 0 (.slice (some ⟨b', off', none⟩) 3 cp)).toList) := Hid.mk_ (range_keep HRG.out (fun h => b8.block b h))
  have L8 : Hid (w7.heap.size ≤ w8.heap.size) := Hid.mk_ b8.size
  clear hne hN hc8 b8 q61 q0 q1 q2 q3 q4 q5 x0 x1 x2 lz ne1 ne2 hb hb' D17 D27 B7 HCL HRG
  have VB : Hid (Vok (dNew 1 i)) := Hid.mk_ (Vok.new 1 i)
  have n3 : Hid (3 = (tM i 3).length) := Hid.mk_ rfl
  obtain ⟨tb, htb⟩ : ∃ tb, tb = tB i 3 := ⟨_, rfl⟩
  have HTB : Hid (tb = dHandle (dNew 1 i) 1 0 1 1 0 0 (tM i 3)) := Hid.mk_ (by rw [htb]; rfl)
  rw [← htb] at G3 G4
  clear htb
  have G2b := Hid.mk_ G2.out.symm
  have HMC : Hid (MsgC (msg 1 0 1 1 0 0 (.slice (some ⟨b', off', none⟩) 3 cp)).toList.toArray 1 0 1 1 0 0 (.slice (some ⟨b', off', none⟩) 3 cp)) := Hid.mk_ (by rw [Array.toArray_toList]; exact MsgC.of_msg _ _ _ _ _ _ _ _ _)
  have hcpm : cp ≤ 9223372036854775807 := HNP.out.2.2
  go_upto_region 11 with (first
    | (refine wpList_load_mid rfl 42 _ rfl b 0 rfl _ _ HRG8.out Try.underlying42 rfl size42 ?_)
    | (go_at_call 10; refine (handle1 w8 S2 g2 (dNew 1 i) _ 1 0 1 1 0 0 (some ⟨b', off', none⟩) 3 cp (tM i 3) D28 VB HMC HCL8 PN n3 hcp3 hcpm tb HTB [⟨2, 1, 0, 1, 0, 0, tK i⟩] G2b).mono ?_; rintro e w9 ⟨v9, T9, rfl, o9, t9⟩))
  obtain ⟨A9, c9, e9, _, _⟩ := o9.out.form
  have e10 : v9 = .slice A9 1 c9 := e9
  subst e10
  clear e9
  obtain ⟨bk, Pk, nk, ck, rfl, hTk, hbk, Mk, CLk, hPk, RGk⟩ := o9.out.mat 0 _ rfl
  obtain ⟨S9, D9, k9, r9, n9⟩ := t9.out
  have D29 := Hid.mk_ D9
  have Q9 : Hid (∀ k, S9 k → w.heap.size ≤ k) := Hid.mk_ (fun k hk => (k9 k hk).elim (fun h => Nat.le_trans (Nat.le_trans (by have := B2s.out; omega) (Q12.out.2 k h).1) (Nat.le_refl _)) (fun h => Nat.le_trans B8.out.size h))
  have D19 := Hid.mk_ (D18.out.wr r9 (fun k hk h => by
    have h2 := Q12.out.2 k h
    rcases (Q7.out k hk).1 with h1 | h1
    · have := Q12.out.1 k h1; omega
    · have := L4.out; omega))
  have B9 := Hid.mk_ (B8.out.trans (r9.below B8.out.size (fun k hk => by have := (Q12.out.2 k hk).1; have := B2s.out; omega)))
  have NN : Hid (∀ k, S9 k → ¬ S7 k) := Hid.mk_ (fun k hk h => by
    rcases k9 k hk with h1 | h1
    · have h2 := Q12.out.2 k h1
      rcases (Q7.out k h).1 with h3 | h3
      · have := Q12.out.1 k h3; omega
      · have := L4.out; omega
    · have := S7b.out k h; have := L8.out; omega)
  have TK : Hid (∀ j, T9 j → w7.heap.size ≤ j) := Hid.mk_ (fun j hj => by have := (o9.out.2.2 j hj).1; have := L8.out; omega)
  have PK : Hid (∀ x off, Pk = some ⟨x, off, none⟩ → 0 < 3 → ¬ S7 x) := Hid.mk_ (fun x off e _ h => by have := TK.out x (hPk x off e); have := S7b.out x h; omega)
  have nk3 : nk = 3 := Mk.len
  subst nk3
  have hck3 : 3 ≤ ck := Mk.cap
  have hckm : ck ≤ 9223372036854775807 := Mk.max
  have HCK := Hid.mk_ CLk
  have HRK : Hid (w9.rangeAt bk 0 (msg 2 1 0 1 0 0 (.slice Pk 3 ck)).toList) := Hid.mk_ RGk
  have HMK : Hid (MsgC (msg 2 1 0 1 0 0 (.slice Pk 3 ck)).toList.toArray 2 1 0 1 0 0 (.slice Pk 3 ck)) := Hid.mk_ (by rw [Array.toArray_toList]; exact MsgC.of_msg _ _ _ _ _ _ _ _ _)
  have n3k : Hid (3 = (tK i).length) := Hid.mk_ rfl
  have HI : Hid (i + 1 = tb.inc) := Hid.mk_ G3.out.symm
  obtain ⟨tc, htc⟩ : ∃ tc, tc = dHandle ta 2 1 0 1 0 0 (tK i) := ⟨_, rfl⟩
  have HTC := Hid.mk_ htc
  rw [← htc] at G5a
  clear htc CLk RGk Mk hPk hTk D9 k9 n9 t9 o9 D18 D28 B8 HCL8 HRG8 hbk
  have hec := G5a.out
  have HV1 : Hid ((.agg #[.int .i64 1, .int .i64 (i + 1), .int .i64 1] : Value) = .agg #[.int .i64 (cOf tc 1).n, .int .i64 (cOf tc 1).i, .int .i64 (cOf tc 1).h]) := Hid.mk_ (by rw [hec])
  clear hec
  have hs3 := G4.out
  have eqq := eql48_self 1 (i + 1) 1
  have hw1 := HW1.out
  have fl1 := fld1
  go_wp2_with (first
    | (go_at_call 15; refine (inc0 w9 S9 g2 tb D29 (i + 1) HI).mono ?_; rintro e w10 ⟨rfl, e10⟩; have e11 := e10.symm; subst e11)
    | (refine wpList_load_mid rfl 42 _ rfl bk 0 rfl _ _ HRK.out Try.underlying42 rfl size42 ?_)
    | (go_at_call 10; refine (handle1 w9 S7 g1 ta _ 2 1 0 1 0 0 Pk 3 ck (tK i) D19 VT HMK HCK PK n3k hck3 hckm tc HTC _ (Hid.mk_ rfl)).mono ?_; rintro e w11 ⟨v11, T11, rfl, o11, t11⟩; obtain ⟨S11, D11, k11, r11, n11⟩ := t11.out; have HD11 := Hid.mk_ D11)
    | (go_at_call 14; refine (ofD w12 S9 g2 tb 0 HD12 _ (Hid.mk_ rfl)).mono ?_; rintro e w13 ⟨rfl, b13⟩)
    | (go_at_call 14; refine (ofD w11 S11 g1 tc 1 HD11 _ HV1).mono ?_; rintro e w12 ⟨rfl, b12⟩; have HD12 := Hid.mk_ ((D29.out.wr r11 (fun k hk h => NN.out k hk h)).below b12))
    | (go_at_call 11; refine (awake _).mono ?_; rintro e w14 ⟨rfl, b14⟩))
  go_ret
  have B11 := B9.out.trans (r11.below B9.out.size (fun k hk => (Q7.out k hk).2))
  have B12 := B11.trans (b12.mono B11.size)
  have B13 := B12.trans (b13.mono B12.size)
  exact ⟨rfl, B13.trans (b14.mono B13.size)⟩
theorem law (w : World) (a0 : Int) (b : Bool) (dr : Int) (hdr : 0 ≤ dr) : Calls Try.prog 5 #[.int .i64 a0, .bool b, .int .u64 dr] w fun e w' => e = .returned (.bool true) ∧ Below w.heap.size w w' := by
  obtain ⟨y, y0, y1, ey⟩ := modm a0 1000 (by omega) (by omega)
  cases b with
  | false => exact lawfalse w a0 y dr ey (Hid.mk_ ⟨y0, y1⟩) (Hid.mk_ hdr)
  | true => exact lawtrue w a0 y dr ey (Hid.mk_ ⟨y0, y1⟩) (Hid.mk_ hdr)
theorem walk (w : World) (a : Int) (ha : (Lit.int .i64 a).wf = true) (b : Bool) (u : Int) (hu : (Lit.int .u64 u).wf = true) : Calls Try.prog 5 #[.int .i64 a, .bool b, .int .u64 u] w fun e w' => e = .returned (.bool true) ∧ Below w.heap.size w w' :=
  law w a b u (by simp [Lit.wf] at hu; have h0 : IntKind.u64.min = 0 := rfl; omega)
end Go.Proofs.Ythndjhocmpelcaa.WSwimTells
