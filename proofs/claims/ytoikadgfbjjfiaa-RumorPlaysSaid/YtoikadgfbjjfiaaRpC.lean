/- Chapter 3: a heap in a row: down. Conditions: the row lies in a block of its own. -/
import Derived.Test.YtoikadgfbjjfiaaRpB
namespace Go.Proofs.Ytoikadgfbjjfiaa.Rum
open Go.RowKit Kit
set_option linter.unusedVariables false
def fn (l : List Tld) (k : Nat) : Tld := l[k]?.getD default
theorem fn_get {l : List Tld} {k : Nat} (h : k < l.length) : l[k]? = some (fn l k) := by
  unfold fn
  rw [List.getElem?_eq_getElem h]
  rfl
def sw (l : List Tld) (i j : Nat) : List Tld := (l.set i (fn l j)).set j (fn l i)
theorem sw_len (l : List Tld) (i j : Nat) : (sw l i j).length = l.length := by simp [sw]
def downF : Nat → List Tld → Nat → Nat → List Tld × Nat
  | 0, l, i, _ => (l, i)
  | f + 1, l, i, n => if 2 * i + 1 < n then
      (if ltT (fn l (Heap.kid ltT (fn l) n i)) (fn l i) then downF f (sw l i (Heap.kid ltT (fn l) n i)) (Heap.kid ltT (fn l) n i) n else (l, i))
    else (l, i)
theorem lessI (b n c i k : Nat) (iI kI : Int) (hs : List Tld) (w : World) (hm : Hid (TAt w b hs)) (ei : Hid (iI = (i : Int))) (ek : Hid (kI = (k : Int))) (hin : Hid (i < n)) (hkn : Hid (k < n)) (hl : Hid (n = hs.length)) (hn : n ≤ 1000000) (q : Bool) (hq : Hid (q = ltT (fn hs i) (fn hs k))) :
    Calls Try.prog 84 #[.slice (some ⟨b, 0, none⟩) n c, .int .i64 iI, .int .i64 kI] w fun e w' => e = .returned (.bool q) ∧ Below w.heap.size w w' := by
  rw [ei.out, ek.out]
  have h1 := hin.out
  have h2 := hkn.out
  have h3 := hl.out
  exact less b n c i k (fn hs i) (fn hs k) hs w hm (Hid.mk_ (fn_get (by omega))) (Hid.mk_ (fn_get (by omega))) h1 h2 hn q hq
theorem swapI (base b n c i k : Nat) (iI kI : Int) (hs : List Tld) (w : World) (hm : Hid (OwnT w base (.slice (some ⟨b, 0, none⟩) n c) hs)) (ei : Hid (iI = (i : Int))) (ek : Hid (kI = (k : Int))) (hin : Hid (i < n)) (hkn : Hid (k < n)) (hl : Hid (n = hs.length)) (hn : n ≤ 1000000) :
    Calls Try.prog 85 #[.slice (some ⟨b, 0, none⟩) n c, .int .i64 iI, .int .i64 kI] w fun e w' => e = .returned (.tuple #[]) ∧ OwnT w' base (.slice (some ⟨b, 0, none⟩) n c) (sw hs i k) ∧ w.grownBy w' (some b) := by
  rw [ei.out, ek.out]
  have h1 := hin.out
  have h2 := hkn.out
  have h3 := hl.out
  exact swap0 base b n c i k (fn hs i) (fn hs k) hs w hm (Hid.mk_ (fn_get (by omega))) (Hid.mk_ (fn_get (by omega))) h1 h2 hn
set_option maxRecDepth 100000 in
set_option maxHeartbeats 4000000 in
theorem down (g base b n c i0 n0 : Nat) (hs : List Tld) (w : World) (hc : Hid (w.cell? ⟨g, 1, none⟩ = some (.slice (some ⟨b, 0, none⟩) n c))) (hm : Hid (OwnT w base (.slice (some ⟨b, 0, none⟩) n c) hs)) (hn : Hid (n = hs.length)) (hn0 : n0 ≤ n) (hi0 : i0 ≤ n0) (hbig : n ≤ 1000000) (hgb : g ≠ b) (f0 : Nat) (hf : n0 < i0 + f0) (R : List Tld) (iR : Nat) (hR : Hid (downF f0 hs i0 n0 = (R, iR))) :
    Calls Try.prog 55 #[.iface 95 (.pointer (some ⟨g, 1, none⟩)), .int .i64 (i0 : Int), .int .i64 (n0 : Int)] w fun e w' => e = .returned (.bool (decide (i0 < iR))) ∧ Hid (OwnT w' base (.slice (some ⟨b, 0, none⟩) n c) R) ∧ R.length = n ∧ w.grownBy w' (some b) := by
  go_enter Try.func55, Try.ntmps55
  go_wp2_with fail
  go_loopw [7] (fun v wr => ∃ (i f : Nat) (cur : List Tld), v = .int .i64 (i : Int) ∧ i ≤ n0 ∧ n0 < i + f ∧ Hid (n = cur.length) ∧ Hid (OwnT wr base (.slice (some ⟨b, 0, none⟩) n c) cur) ∧ Hid (w.grownBy wr (some b)) ∧ Hid (downF f cur i n0 = (R, iR))) (fun v _ => n0 - (intOf v).toNat)
  case atStart => exact ⟨i0, f0, hs, rfl, hi0, hf, hn, hm, Hid.mk_ (World.grownBy.refl _ _), hR⟩
  case round =>
    obtain ⟨i, f, cur, rfl, hi, hfi, hcn, hown, hgr, hR⟩ := hrel
    obtain ⟨f, rfl⟩ : ∃ f', f = f' + 1 := ⟨f - 1, by omega⟩
    by_cases h1 : 2 * i + 1 < n0
    · have eR : downF (f + 1) cur i n0 = if ltT (fn cur (Heap.kid ltT (fn cur) n0 i)) (fn cur i) then downF f (sw cur i (Heap.kid ltT (fn cur) n0 i)) (Heap.kid ltT (fn cur) n0 i) n0 else (cur, i) := by
        rw [downF, if_pos h1]
      have hcell := hgr.out.cell hc.out (by simp; omega)
      have ml := m_less wr g _ hcell
      have M1 := Hid.mk_ hown.out.at_
      clear hcell
      by_cases h2 : 2 * i + 2 < n0
      · cases hq2 : ltT (fn cur (2 * i + 2)) (fn cur (2 * i + 1)) with
        | false =>
          have ek : Heap.kid ltT (fn cur) n0 i = 2 * i + 1 := by unfold Heap.kid; rw [if_neg (fun h => by rw [hq2] at h; cases h.2)]
          rw [eR, ek] at hR
          have HQ2 := Hid.mk_ hq2.symm
          clear hq2 eR ek
          go_upto_region 6 with fail
          go_upto_region 8 with (go_at_call 84; refine (lessI b n c (2 * i + 2) (2 * i + 1) _ _ cur _ M1 (Hid.mk_ (by omega)) (Hid.mk_ (by omega)) (Hid.mk_ (by omega)) (Hid.mk_ (by omega)) hcn hbig false HQ2).mono ?_; rintro e w2 ⟨rfl, b2⟩)
          have O2 := Hid.mk_ (hown.out.keep b2)
          have M2 := Hid.mk_ O2.out.at_
          have G2 := Hid.mk_ (gb_trans hgr.out (gb_below b2))
          have ml2 := m_less w2 g _ (G2.out.cell hc.out (by simp; omega))
          clear ml b2 M1 hown hgr
          have ml := ml2
          clear ml2
          cases hq : ltT (fn cur (2 * i + 1)) (fn cur i) with
          | false =>
            rw [hq] at hR
            have HQ := Hid.mk_ hq.symm
            clear hq
            go_wp2_with (go_at_call 84; refine (lessI b n c (2 * i + 1) i _ _ cur _ M2 (Hid.mk_ (by omega)) (Hid.mk_ rfl) (Hid.mk_ (by omega)) (Hid.mk_ (by omega)) hcn hbig false HQ).mono ?_; rintro e w3 ⟨rfl, b3⟩)
            go_ret
            have hR2 : (cur, i) = (R, iR) := by simpa using hR.out
            injection hR2 with r1 r2
            subst r1 r2
            refine ⟨by simp, Hid.mk_ (O2.out.keep b3), hcn.out.symm, gb_trans G2.out (gb_below b3)⟩
          | true =>
            rw [hq] at hR
            have HQ := Hid.mk_ hq.symm
            clear hq
            go_wp2_with (go_at_call 84; refine (lessI b n c (2 * i + 1) i _ _ cur _ M2 (Hid.mk_ (by omega)) (Hid.mk_ rfl) (Hid.mk_ (by omega)) (Hid.mk_ (by omega)) hcn hbig true HQ).mono ?_; rintro e w3 ⟨rfl, b3⟩; have ms := m_swap w3 g _ (keep1 b3 (G2.out.cell hc.out (by simp; omega))))
            refine (swapI base b n c i (2 * i + 1) _ _ cur _ (Hid.mk_ (O2.out.keep b3)) (Hid.mk_ rfl) (Hid.mk_ (by omega)) (Hid.mk_ (by omega)) (Hid.mk_ (by omega)) hcn hbig).mono ?_
            rintro e w4 ⟨rfl, o4, g4⟩
            have O4 := Hid.mk_ o4
            have G4 := Hid.mk_ (gb_trans (gb_trans G2.out (gb_below b3)) g4)
            have H4 : Hid (n = (sw cur i ((2 * i + 1))).length) := Hid.mk_ (by rw [sw_len]; exact hcn.out)
            have hR2 : Hid (downF f (sw cur i ((2 * i + 1))) ((2 * i + 1)) n0 = (R, iR)) := Hid.mk_ (by simpa using hR.out)
            clear o4 g4 b3 ml hR
            generalize sw cur i ((2 * i + 1)) = cur2 at *
            go_wp2_with fail
            first
              | exact ⟨⟨(2 * i + 1), f, cur2, by go_num, by omega, by omega, H4, O4, G4, hR2⟩, by simp [intOf]; omega⟩
              | (go_roundw
                 case rel => exact ⟨(2 * i + 1), f, cur2, by go_num, by omega, by omega, H4, O4, G4, hR2⟩
                 case measure => simp [intOf]; omega)
        | true =>
          have ek : Heap.kid ltT (fn cur) n0 i = 2 * i + 2 := by unfold Heap.kid; rw [if_pos ⟨h2, hq2⟩]
          rw [eR, ek] at hR
          have HQ2 := Hid.mk_ hq2.symm
          clear hq2 eR ek
          go_upto_region 6 with fail
          go_upto_region 8 with (go_at_call 84; refine (lessI b n c (2 * i + 2) (2 * i + 1) _ _ cur _ M1 (Hid.mk_ (by omega)) (Hid.mk_ (by omega)) (Hid.mk_ (by omega)) (Hid.mk_ (by omega)) hcn hbig true HQ2).mono ?_; rintro e w2 ⟨rfl, b2⟩)
          have O2 := Hid.mk_ (hown.out.keep b2)
          have M2 := Hid.mk_ O2.out.at_
          have G2 := Hid.mk_ (gb_trans hgr.out (gb_below b2))
          have ml2 := m_less w2 g _ (G2.out.cell hc.out (by simp; omega))
          clear ml b2 M1 hown hgr
          have ml := ml2
          clear ml2
          cases hq : ltT (fn cur (2 * i + 2)) (fn cur i) with
          | false =>
            rw [hq] at hR
            have HQ := Hid.mk_ hq.symm
            clear hq
            go_wp2_with (go_at_call 84; refine (lessI b n c (2 * i + 2) i _ _ cur _ M2 (Hid.mk_ (by omega)) (Hid.mk_ rfl) (Hid.mk_ (by omega)) (Hid.mk_ (by omega)) hcn hbig false HQ).mono ?_; rintro e w3 ⟨rfl, b3⟩)
            go_ret
            have hR2 : (cur, i) = (R, iR) := by simpa using hR.out
            injection hR2 with r1 r2
            subst r1 r2
            refine ⟨by simp, Hid.mk_ (O2.out.keep b3), hcn.out.symm, gb_trans G2.out (gb_below b3)⟩
          | true =>
            rw [hq] at hR
            have HQ := Hid.mk_ hq.symm
            clear hq
            go_wp2_with (go_at_call 84; refine (lessI b n c (2 * i + 2) i _ _ cur _ M2 (Hid.mk_ (by omega)) (Hid.mk_ rfl) (Hid.mk_ (by omega)) (Hid.mk_ (by omega)) hcn hbig true HQ).mono ?_; rintro e w3 ⟨rfl, b3⟩; have ms := m_swap w3 g _ (keep1 b3 (G2.out.cell hc.out (by simp; omega))))
            refine (swapI base b n c i (2 * i + 2) _ _ cur _ (Hid.mk_ (O2.out.keep b3)) (Hid.mk_ rfl) (Hid.mk_ (by omega)) (Hid.mk_ (by omega)) (Hid.mk_ (by omega)) hcn hbig).mono ?_
            rintro e w4 ⟨rfl, o4, g4⟩
            have O4 := Hid.mk_ o4
            have G4 := Hid.mk_ (gb_trans (gb_trans G2.out (gb_below b3)) g4)
            have H4 : Hid (n = (sw cur i ((2 * i + 2))).length) := Hid.mk_ (by rw [sw_len]; exact hcn.out)
            have hR2 : Hid (downF f (sw cur i ((2 * i + 2))) ((2 * i + 2)) n0 = (R, iR)) := Hid.mk_ (by simpa using hR.out)
            clear o4 g4 b3 ml hR
            generalize sw cur i ((2 * i + 2)) = cur2 at *
            go_wp2_with fail
            first
              | exact ⟨⟨(2 * i + 2), f, cur2, by go_num, by omega, by omega, H4, O4, G4, hR2⟩, by simp [intOf]; omega⟩
              | (go_roundw
                 case rel => exact ⟨(2 * i + 2), f, cur2, by go_num, by omega, by omega, H4, O4, G4, hR2⟩
                 case measure => simp [intOf]; omega)
      · have ek : Heap.kid ltT (fn cur) n0 i = 2 * i + 1 := by unfold Heap.kid; rw [if_neg (fun h => h2 h.1)]
        rw [eR, ek] at hR
        clear eR ek
        go_upto_region 8 with fail
        cases hq : ltT (fn cur (2 * i + 1)) (fn cur i) with
        | false =>
          rw [hq] at hR
          have HQ := Hid.mk_ hq.symm
          clear hq
          go_wp2_with (go_at_call 84; refine (lessI b n c (2 * i + 1) i _ _ cur _ M1 (Hid.mk_ (by omega)) (Hid.mk_ rfl) (Hid.mk_ (by omega)) (Hid.mk_ (by omega)) hcn hbig false HQ).mono ?_; rintro e w3 ⟨rfl, b3⟩)
          go_ret
          have hR2 : (cur, i) = (R, iR) := by simpa using hR.out
          injection hR2 with r1 r2
          subst r1 r2
          refine ⟨by simp, Hid.mk_ (hown.out.keep b3), hcn.out.symm, gb_trans hgr.out (gb_below b3)⟩
        | true =>
          rw [hq] at hR
          have HQ := Hid.mk_ hq.symm
          clear hq
          go_wp2_with (go_at_call 84; refine (lessI b n c (2 * i + 1) i _ _ cur _ M1 (Hid.mk_ (by omega)) (Hid.mk_ rfl) (Hid.mk_ (by omega)) (Hid.mk_ (by omega)) hcn hbig true HQ).mono ?_; rintro e w3 ⟨rfl, b3⟩; have ms := m_swap w3 g _ (keep1 b3 (hgr.out.cell hc.out (by simp; omega))))
          refine (swapI base b n c i (2 * i + 1) _ _ cur _ (Hid.mk_ (hown.out.keep b3)) (Hid.mk_ rfl) (Hid.mk_ (by omega)) (Hid.mk_ (by omega)) (Hid.mk_ (by omega)) hcn hbig).mono ?_
          rintro e w4 ⟨rfl, o4, g4⟩
          have O4 := Hid.mk_ o4
          have G4 := Hid.mk_ (gb_trans (gb_trans hgr.out (gb_below b3)) g4)
          have H4 : Hid (n = (sw cur i ((2 * i + 1))).length) := Hid.mk_ (by rw [sw_len]; exact hcn.out)
          have hR2 : Hid (downF f (sw cur i ((2 * i + 1))) ((2 * i + 1)) n0 = (R, iR)) := Hid.mk_ (by simpa using hR.out)
          clear o4 g4 b3 ml hR
          generalize sw cur i ((2 * i + 1)) = cur2 at *
          go_wp2_with fail
          first
            | exact ⟨⟨(2 * i + 1), f, cur2, by go_num, by omega, by omega, H4, O4, G4, hR2⟩, by simp [intOf]; omega⟩
            | (go_roundw
               case rel => exact ⟨(2 * i + 1), f, cur2, by go_num, by omega, by omega, H4, O4, G4, hR2⟩
               case measure => simp [intOf]; omega)
    · have eR : downF (f + 1) cur i n0 = (cur, i) := by rw [downF, if_neg h1]
      rw [eR] at hR
      go_wp2_with fail
      go_ret
      have hR2 := hR.out
      injection hR2 with r1 r2
      subst r1 r2
      exact ⟨by simp, hown, hcn.out.symm, hgr.out⟩
end Go.Proofs.Ytoikadgfbjjfiaa.Rum
