/- RumorBack: the walk of the law: one that was told often enough is gone; put again it is told again. No condition. -/
import Derived.Test.YtoikadgfbjjfiaaRpN
namespace Go.Proofs.Ytoikadgfbjjfiaa.WRumorBack
open Go.RowKit Kit Rum Tri3
set_option linter.unusedVariables false
set_option maxRecDepth 100000 in
set_option maxHeartbeats 4000000 in
theorem law (c : Cl) (a : Int) (w : World) : Calls Try.prog 14 #[.agg #[.int .i64 c.n, .int .i64 c.i, .int .i64 c.h], .int .i64 a] w fun e w' => e = .returned (.bool true) ∧ Below w.heap.size w w' := by
  have bx := Hid.mk_ (Box3.made w c.n c.i c.h)
  have b0 := Hid.mk_ ((Below.refl w.heap.size w).alloc (Nat.le_refl _) (.cells #[.int .i64 c.n, .int .i64 c.i, .int .i64 c.h] 53))
  go_enter Try.func14, Try.ntmps14
  go_upto_region 2 with fail
  obtain ⟨y, y0, y1, ey⟩ := modm a 20 (by omega) (by omega)
  rw [ey]
  obtain ⟨o, ho, eo⟩ : ∃ o, (1 ≤ o ∧ o ≤ 20) ∧ wrap64 (1 + y) = o := ⟨1 + y, by omega, by unfold wrap64; omega⟩
  rw [eo]
  clear ey eo y0 y1
  have HO := Hid.mk_ ho
  clear ho
  generalize w.alloc (.cells #[.int .i64 c.n, .int .i64 c.i, .int .i64 c.h] 53) = w1 at *
  obtain ⟨q, hq⟩ : ∃ q, q = w.heap.size := ⟨_, rfl⟩
  have HQ := Hid.mk_ hq
  rw [← hq] at bx ⊢
  clear hq
  go_upto_region 3 with (go_at_call 27; refine (new0 _ o o (Hid.mk_ (ofn_id HO.out))).mono ?_; rintro e w2 ⟨g, rfl, h2, hg, b2⟩)
  have bx2 := Hid.mk_ (bx.out.keep b2)
  have B2 := Hid.mk_ (b0.out.trans (b2.mono b0.out.size))
  have HG : Hid (q < g ∧ w.heap.size ≤ g) := Hid.mk_ (by have := bx.out.lt; have := hg.out; have := HQ.out; omega)
  clear bx b0 hg b2
  obtain ⟨x0, x1, x2, _, _, _⟩ := bx2.out
  cases hgd : good c with
  | false =>
    have e1 : putB c [] = false := by rw [putB_nil, hgd]
    have E1 := Hid.mk_ e1.symm
    have E2 : Hid (([] : List Tld) = putQ c []) := Hid.mk_ (putQ_no e1).symm
    clear hgd e1
    go_upto_region 4 with (go_at_call 32; refine (put0 w2 g o none [] c h2 false E1 [] E2).mono ?_; rintro e w3 ⟨rfl, t3⟩)
    obtain ⟨A3, k3, f3, r3⟩ := t3.out
    have B3 := Hid.mk_ (B2.out.trans (h2.out.wrBelow r3 HG.out.2))
    go_wp2_with (first
      | (go_at_call 34; refine (len _ g o A3 [] (Hid.mk_ k3) 0 (Hid.mk_ rfl)).mono ?_; rintro e w4 ⟨rfl, rfl⟩)
      | (go_at_call 37; refine (awake _).mono ?_; rintro e w5 ⟨rfl, b5⟩))
    go_ret
    exact ⟨rfl, B3.out.trans (b5.mono B3.out.size)⟩
  | true =>
    have E1 : Hid (true = putB c []) := Hid.mk_ (by rw [putB_nil, hgd])
    have E2 : Hid ([one c 0] = putQ c []) := Hid.mk_ (putQ_nil hgd).symm
    clear hgd
    go_upto_region 5 with (go_at_call 32; refine (put0 w2 g o none [] c h2 true E1 [one c 0] E2).mono ?_; rintro e w3 ⟨rfl, t3⟩)
    obtain ⟨A3, k3, f3, r3⟩ := t3.out
    have B3 := Hid.mk_ (B2.out.trans (h2.out.wrBelow r3 HG.out.2))
    have bx3 := Hid.mk_ (bx2.out.wr r3 (fun hh => by have := h2.out.ge q hh; have := HG.out; omega))
    have K3 := Hid.mk_ k3
    clear x0 x1 x2 t3 k3 f3 r3 h2 B2 bx2
    go_wp2_with fail
    go_loopw [27] (fun z wr => ∃ (r : Nat) (A' : Option Addr), z = .int .i64 (r : Int) ∧ r ≤ 2 ∧ Hid (Que wr g o A' [one c 0]) ∧ Hid (Box3 wr q c.n c.i c.h) ∧ Hid (Below w.heap.size w wr)) (fun z _ => 2 - (intOf z).toNat)
    case atStart => exact ⟨0, A3, rfl, by omega, K3, bx3, B3⟩
    case round =>
      clear K3 bx3 B3
      obtain ⟨r, A', rfl, hr, K, BX, BW⟩ := hrel
      by_cases hr2 : r < 2
      · have hr3 : (r : Int) < 2 := by omega
        go_wp2_with fail
        obtain ⟨wo, rfl⟩ : ∃ wo : World, wo = wr := ⟨_, rfl⟩
        go_loopw [30] (fun z wr => ∃ (i : Nat) (A' : Option Addr) (L : List Tld), z = .int .i64 (i : Int) ∧ (i : Int) ≤ o ∧ Hid (L = if (i : Int) < o then [one c i] else []) ∧ Hid (Que wr g o A' L) ∧ Hid (Box3 wr q c.n c.i c.h) ∧ Hid (Below w.heap.size w wr)) (fun z _ => o.toNat - (intOf z).toNat)
        case atStart => exact ⟨0, A', [one c 0], rfl, by have := HO.out; omega, Hid.mk_ (by have := HO.out; rw [if_pos (by omega)]; rfl), K, BX, BW⟩
        case round =>
          clear K BX BW
          obtain ⟨i, A', L, rfl, hi, HL, K, BX, BW⟩ := hrel
          by_cases hio : (i : Int) < o
          · have eL : L = [one c i] := by rw [HL.out, if_pos hio]
            subst eL
            obtain ⟨x0, x1, x2, _, _, _⟩ := BX.out
            have hcon := has0 wr g o A' [one c i] c.n K (some (one c i)) (Hid.mk_ (qof_one c i).symm)
            unfold hasV at hcon
            simp only [one] at hcon
            obtain ⟨M, hM⟩ : ∃ M, tookQ o 1 [one c i] = M := ⟨_, rfl⟩
            have eM : M = if ((i + 1 : Nat) : Int) < o then [one c ((i + 1 : Nat) : Int)] else [] := by
              rw [← hM]
              by_cases e : (i : Int) + 1 < o
              · rw [took_one_yes e, if_pos (by omega)]; rfl
              · rw [took_one_no e, if_neg (by omega)]
            have HM := Hid.mk_ hM
            have EM := Hid.mk_ eM
            clear HL hM eM
            have hi20 : (i : Int) < 20 := by have := HO.out; omega
            go_upto_region 11 with (go_at_call 35; refine hcon.mono ?_; rintro e w4 ⟨rfl, b4⟩)
            have al := b4.alloc b4.size (.cells #[.int .i64 c.n, .int .i64 c.i, .int .i64 c.h] 53)
            have K4 := Hid.mk_ (K.out.below al)
            have BX4 := Hid.mk_ (BX.out.keep al)
            have B4 := Hid.mk_ (BW.out.trans (al.mono BW.out.size))
            clear al b4 hcon x0 x1 x2 K BX BW
            generalize w4.alloc (.cells #[.int .i64 c.n, .int .i64 c.i, .int .i64 c.h] 53) = w5 at *
            go_wp2_with (go_at_call 30; refine (take0 w5 g o A' [one c i] 3 K4 1 (Hid.mk_ rfl)).mono ?_; rintro e w6 ⟨P, np, cp, rfl, o6, n6, t6⟩; have n6' : np = 1 := n6.out; subst n6')
            obtain ⟨A6, k6, f6, r6⟩ := t6.out
            rw [HM.out] at k6
            go_roundw
            case rel => exact ⟨i + 1, A6, M, by go_num, by omega, EM, Hid.mk_ k6, Hid.mk_ (BX4.out.wr r6 (fun hh => by have := K4.out.ge q hh; have := HG.out; omega)), Hid.mk_ (B4.out.trans (K4.out.wrBelow r6 HG.out.2))⟩
            case measure => simp [intOf]; omega
          · have eL : L = [] := by rw [HL.out, if_neg hio]
            subst eL
            clear HL
            obtain ⟨x0, x1, x2, _, _, _⟩ := BX.out
            go_wp2_with (first
              | (go_at_call 32; have _t := tok3; refine (put0 w6 g o A6 [one c 0] c k6 false (Hid.mk_ (putB_one c 0).symm) [one c 0] (Hid.mk_ (putQ_no (putB_one c 0)).symm)).mono ?_; rintro e w7 ⟨rfl, t7⟩)
              | (go_at_call 32; refine (put0 w5 g o A5 [] c k5 true E1 [one c 0] E2).mono ?_; rintro e w6 ⟨rfl, t6⟩; obtain ⟨A6, k6', f6, r6⟩ := t6.out; have k6 := Hid.mk_ k6'; have bx6 := bx5.wr r6 (fun hh => by have := k5.out.ge q hh; have := HG.out; omega); obtain ⟨u0, u1, u2, _, _, _⟩ := Hid.out (Hid.mk_ bx6); have tok3 : True := trivial)
              | (go_at_call 30; refine (take0 _ g o A' [] 3 K 0 (Hid.mk_ rfl)).mono ?_; rintro e w5 ⟨P, np, cp, rfl, o5, n5, t5⟩; have n5' : np = 0 := n5.out; subst n5'; obtain ⟨A5, k5', f5, r5⟩ := t5.out; have k5 := Hid.mk_ k5'; have bx5 := BX.out.wr r5 (fun hh => by have := K.out.ge q hh; have := HG.out; omega); obtain ⟨v0, v1, v2, _, _, _⟩ := Hid.out (Hid.mk_ bx5))
              | (go_at_call 34; refine (len _ g o A' [] K 0 (Hid.mk_ rfl)).mono ?_; rintro e w4 ⟨rfl, rfl⟩))
            obtain ⟨A7, k7, f7, r7⟩ := t7.out
            have bx7 := bx6.wr r7 (fun hh => by have := k6.out.ge q hh; have := HG.out; omega)
            have z5 := BW.out.trans (K.out.wrBelow r5 HG.out.2)
            have z6 := z5.trans (k5.out.wrBelow r6 HG.out.2)
            have z7 := z6.trans (k6.out.wrBelow r7 HG.out.2)
            go_roundw
            case rel => exact ⟨r + 1, A7, by go_num, by omega, Hid.mk_ k7, Hid.mk_ bx7, Hid.mk_ z7⟩
            case measure => simp [intOf]; omega
      · obtain rfl : r = 2 := by omega
        go_wp2_with (first
          | (go_at_call 34; refine (len _ g o A' [one c 0] K 1 (Hid.mk_ rfl)).mono ?_; rintro e w4 ⟨rfl, rfl⟩)
          | (go_at_call 37; refine (awake _).mono ?_; rintro e w5 ⟨rfl, b5⟩))
        go_ret
        exact ⟨rfl, BW.out.trans (b5.mono BW.out.size)⟩
def sh0 : Sh := shC
theorem walk (w : World) (a : Array Value) (ha : RD w sh0 a.toList) (b : Int) (hb : (Lit.int .i64 b).wf = true) : Calls Try.prog 14 #[.agg a, .int .i64 b] w fun e w' => e = .returned (.bool true) ∧ Below w.heap.size w w' := by
  obtain ⟨x, y, z, h⟩ := rd_three ha
  obtain rfl : a = #[.int .i64 x, .int .i64 y, .int .i64 z] := by cases a; simpa using h
  exact law ⟨x, y, z⟩ b w
end Go.Proofs.Ytoikadgfbjjfiaa.WRumorBack
