/- BeliefCopy: the walk of the law. Conditions: the claims lie in memory. -/
import Derived.Test.YthobimdnjggkfaaBelJ
namespace Go.Proofs.Ythobimdnjggkfaa.WBeliefCopy
open Go.RowKit Kit PBeliefJoins Bel
set_option linter.unusedVariables false
set_option maxHeartbeats 2000000 in
theorem long (A A' : Option Addr) (k c k' c' : Nat) (w : World) (hz : 80 < wrap64 ((k : Int) + (k' : Int))) :
    Calls Try.prog 11 #[.slice A k c, .slice A' k' c'] w fun e w' => e = .returned (.bool true) ∧ Below w.heap.size w w' := by
  go_enter Try.func11, Try.ntmps11
  go_wp2_with (go_at_call 22; refine (awakeB _).mono ?_; rintro e w' ⟨rfl, hb⟩)
  go_ret
  exact ⟨rfl, hb⟩
theorem told_at {w : World} {base : Nat} {A : Option Addr} {n c : Nat} {xs : List Value} (h : w.ownsRow base 45 3 (.slice A n c) n xs) : n = 0 ∨ ∃ t cs, A = some ⟨t, 0, none⟩ ∧ base ≤ t ∧ w.heap[t]? = some (.cells cs 45 (0, 0)) ∧ n * 3 ≤ cs.size := by
  rcases h.2 with ⟨hv, h0⟩ | ⟨g, cap, cur, hv, hb, hh, hnc, hm, hcur, ht⟩
  · exact .inl h0
  · injection hv with h1
    refine .inr ⟨g, cur, h1, hb, hh, ?_⟩
    rw [hcur]
    exact Nat.mul_le_mul_right 3 hnc
set_option maxHeartbeats 4000000 in
theorem short (A A' : Option Addr) (ls ms : List Cl) (c c' : Nat) (w : World) (hl : Hid (ClAt w A ls)) (hm : Hid (ClAt w A' ms)) (hz : ¬ 80 < wrap64 ((ls.length : Int) + (ms.length : Int))) (hk : ls.length ≤ 9223372036854775807) (hk' : ms.length ≤ 9223372036854775807) :
    Calls Try.prog 11 #[.slice A ls.length c, .slice A' ms.length c'] w fun e w' => e = .returned (.bool true) ∧ Below w.heap.size w w' := by
  go_enter Try.func11, Try.ntmps11
  go_upto_region 3 with fail
  clear hz
  go_wp2_with fail
  refine (heard0 A ls c _ hl hk).mono ?_
  rintro e w1 ⟨gv, rfl, hgv, hv1, hb1⟩
  obtain ⟨V, eV⟩ : ∃ V, hears s0 (ls.take 100) = V := ⟨_, rfl⟩
  have EV := Hid.mk_ eV
  have okV : Ok V := by rw [← eV]; exact ok_hears ok_s0 _
  rw [eV] at hv1
  clear eV
  have HV1 := Hid.mk_ hv1
  clear hv1
  have hgv1 := HV1.out.lt
  have hz1 := hb1.size
  go_wp2_with fail
  refine (copy0 V.p V.q gv _ HV1.out).mono ?_
  rintro e w2 ⟨gw, rfl, hgw, hw2, hb2⟩
  have HV2 := Hid.mk_ (HV1.out.below hb2 hgv1)
  have HW2 := Hid.mk_ hw2
  clear hw2
  have hgw2 := HW2.out.lt
  have b2 : Below w.heap.size w w2 := hb1.trans (hb2.mono hb1.size)
  go_wp2_with fail
  go_loopw [26] (fun i wr => ∃ k : Nat, k ≤ ms.length ∧ i = .int .i64 (k : Int) ∧ Vw wr gw (hears V (ms.take k)).p (hears V (ms.take k)).q ∧ Vw wr gv V.p V.q ∧ Below w.heap.size w wr) (fun i _ => ms.length - (intOf i).toNat)
  case atStart => exact ⟨0, by omega, rfl, HW2.out, HV2.out, b2⟩
  case round =>
    obtain ⟨k, hk1, rfl, hw0, hv0, hbl⟩ := hrel
    have HW := Hid.mk_ hw0
    have HV := Hid.mk_ hv0
    clear hv0 hw0
    by_cases hlt : k < ms.length
    · obtain ⟨b, off, rfl, hbw, hc0, hc1, hc2⟩ := hm.out k ms[k] (List.getElem?_eq_getElem hlt)
      have hk0 := (hbl.cell (p := ⟨b, off + k * 3, none⟩) hbw).trans hc0
      have hk1 := (hbl.cell (p := ⟨b, off + k * 3 + 1, none⟩) hbw).trans hc1
      have hk2 := (hbl.cell (p := ⟨b, off + k * 3 + 2, none⟩) hbw).trans hc2
      have hbr : b < wr.heap.size := Nat.lt_of_lt_of_le hbw hbl.size
      clear hc0 hc1 hc2
      have TS := Hid.mk_ (take_snoc (List.getElem?_eq_getElem hlt))
      go_wp2_with fail
      refine (hear_at _ ms[k] gw _ rfl _ (HW.out.below ((Below.refl _ _).alloc (Nat.le_refl _) _) HW.out.lt)).mono ?_
      rintro e w3 ⟨rfl, hv3, hg3⟩
      have HV3 := Hid.mk_ hv3
      clear hv3
      go_wp2_with fail
      refine ⟨⟨k + 1, by omega, by go_num, ?_, ?_, ?_⟩, by simp [intOf]; omega⟩
      · rw [TS.out, hears_snoc]; exact HV3.out
      · exact vw_far (HV.out.below ((Below.refl _ _).alloc (Nat.le_refl _) _) HV.out.lt) hg3 (by omega)
      · exact below_row (hbl.alloc hbl.size _) hg3 (by have := hbl.size; simp; omega) (by omega)
    · obtain rfl : k = ms.length := by omega
      have HW1 := Hid.mk_ (show Vw wr gw (hears V ms).p (hears V ms).q by have := HW.out; rwa [List.take_length] at this)
      clear HW
      have okW := ok_hears okV ms
      have KW : ∀ j, K (hears V ms) j = max (K V j) (mx j ms) := fun j => (hears_K j ms V okV).1
      generalize hears V ms = W at HW1 okW KW
      go_wp2_with fail
      refine (heard0 A ls c _ (Hid.mk_ (hl.out.keep hbl)) hk).mono ?_
      rintro e w4 ⟨ga, rfl, hga, ha4, hb4⟩
      rw [EV.out] at ha4
      have HA4 := Hid.mk_ ha4
      clear ha4
      have HV4 := Hid.mk_ (HV.out.below hb4 HV.out.lt)
      have HW4 := Hid.mk_ (HW1.out.below hb4 HW1.out.lt)
      have b4 := hbl.trans (hb4.mono hbl.size)
      have lv := HV4.out.lt
      have lw := HW4.out.lt
      have la := HA4.out.lt
      go_wp2_with fail
      refine (all0 W.p W.q gw _ HW4).mono ?_
      rintro e w5 ⟨v, rfl, h5, hb5⟩
      obtain ⟨A5, c5, rfl⟩ := own_form h5
      have hn8 := cnt_le (fun k => !(W.q k == 0)) 8
      have ht := told_at h5
      clear h5
      generalize cntC (fun k => !(W.q k == 0)) 8 = n5 at ht hn8
      have HT := Hid.mk_ ht
      clear ht
      go_wp2_with fail
      go_loopw [40] (fun i wx => ∃ k : Nat, k ≤ n5 ∧ i = .int .i64 (k : Int) ∧ (n5 = 0 ∨ ∃ t cs, A5 = some ⟨t, 0, none⟩ ∧ w4.heap.size ≤ t ∧ wx.heap[t]? = some (.cells cs 45 (0, 0)) ∧ n5 * 3 ≤ cs.size) ∧ Below w4.heap.size w4 wx) (fun i _ => n5 - (intOf i).toNat)
      case atStart => exact ⟨0, by omega, rfl, HT.out, hb5⟩
      case round =>
        obtain ⟨k, hkn, rfl, ht, hbx⟩ := hrel
        have HT' := Hid.mk_ ht
        clear ht
        by_cases hlt : k < n5
        · rcases HT'.out with h0 | ⟨t, cs, rfl, htb, hcs, hsz⟩
          · omega
          · have hkc : k * 3 + 1 < cs.size := by omega
            have hcell := cell_of_row wr t (k * 3 + 1) cs 45 (0, 0) hcs
            rw [Array.getElem?_eq_getElem hkc] at hcell
            have hfz := frozen_of_row wr t (k * 3 + 1) cs 45 hcs
            have HC := Hid.mk_ hcs
            clear hcs
            go_wp2_with fail
            refine ⟨⟨k + 1, by omega, by go_num, .inr ⟨t, _, rfl, htb, heap_setCell_same _ _ _ _ _ _ HC.out, by simp; omega⟩, ?_⟩, by simp [intOf]; omega⟩
            exact ⟨hbx.os, hbx.tape, hbx.output, by simpa [World.setCell] using hbx.size, fun j hj => (heap_setCell_other _ _ _ _ (by show j ≠ t; omega)).trans (hbx.block j hj)⟩
        · obtain rfl : k = n5 := by omega
          have HV6 := Hid.mk_ (HV4.out.below hbx lv)
          have HW6 := Hid.mk_ (HW4.out.below hbx lw)
          have HA6 := Hid.mk_ (HA4.out.below hbx la)
          have b6 := b4.trans (hbx.mono b4.size)
          clear HT'
          go_wp2_with fail
          go_loopw [48] (fun i wr => ∃ k : Nat, k ≤ 8 ∧ i = .int .i64 (k : Int) ∧ Vw wr gv V.p V.q ∧ Vw wr gw W.p W.q ∧ Vw wr ga V.p V.q ∧ Below w.heap.size w wr) (fun i _ => 8 - (intOf i).toNat)
          case atStart => exact ⟨0, by omega, rfl, HV6.out, HW6.out, HA6.out, b6⟩
          case round =>
            obtain ⟨k, hk8, rfl, hv7, hw7, ha7, b7⟩ := hrel
            have HV7 := Hid.mk_ hv7
            have HW7 := Hid.mk_ hw7
            have HA7 := Hid.mk_ ha7
            clear hv7 hw7 ha7
            by_cases hlt : k < 8
            · obtain ⟨r, er, hr⟩ : ∃ r, cmpC (W.p k) (W.q k) (V.p k) (V.q k) = r ∧ 0 ≤ r := by
                refine ⟨_, rfl, ?_⟩
                have h1 := cmp_neg (okW k) (okV k)
                have h2 := KW k
                unfold K at h2
                omega
              go_wp2_with fail
              refine Calls.cells (of_at _ _ gv k hlt _ _ rfl rfl _ HV7.out) ?_
              intro x1 h1 c1
              have HV8 := Hid.mk_ (HV7.out.below h1 HV7.out.lt)
              have HW8 := Hid.mk_ (HW7.out.below h1 HW7.out.lt)
              have HA8 := Hid.mk_ (HA7.out.below h1 HA7.out.lt)
              have b8 := b7.trans (h1.mono b7.size)
              clear HV7 HW7 HA7 c1 h1
              go_wp2_with fail
              refine Calls.cells (of_at _ _ ga k hlt _ _ rfl rfl _ HA8.out) ?_
              intro x2 h1 c1
              have HV9 := Hid.mk_ (HV8.out.below h1 HV8.out.lt)
              have HW9 := Hid.mk_ (HW8.out.below h1 HW8.out.lt)
              have HA9 := Hid.mk_ (HA8.out.below h1 HA8.out.lt)
              have b9 := b8.trans (h1.mono b8.size)
              clear HV8 HW8 HA8 c1 h1
              go_wp2_with fail
              refine Calls.cells (of_at _ _ gw k hlt _ _ rfl rfl _ HW9.out) ?_
              intro x3 h1 c1
              have HV10 := Hid.mk_ (HV9.out.below h1 HV9.out.lt)
              have HW10 := Hid.mk_ (HW9.out.below h1 HW9.out.lt)
              have HA10 := Hid.mk_ (HA9.out.below h1 HA9.out.lt)
              have b10 := b9.trans (h1.mono b9.size)
              clear HV9 HW9 HA9 c1 h1
              go_wp2_with fail
              refine Calls.cells (of_at _ _ gv k hlt _ _ rfl rfl _ HV10.out) ?_
              intro x4 h1 c1
              have HV11 := Hid.mk_ (HV10.out.below h1 HV10.out.lt)
              have HW11 := Hid.mk_ (HW10.out.below h1 HW10.out.lt)
              have HA11 := Hid.mk_ (HA10.out.below h1 HA10.out.lt)
              have b11 := b10.trans (h1.mono b10.size)
              clear HV10 HW10 HA10 c1 h1
              go_wp2_with fail
              refine Calls.cells (compare1 er _) ?_
              intro x5 h1 c1
              have HV12 := Hid.mk_ (HV11.out.below h1 HV11.out.lt)
              have HW12 := Hid.mk_ (HW11.out.below h1 HW11.out.lt)
              have HA12 := Hid.mk_ (HA11.out.below h1 HA11.out.lt)
              have b12 := b11.trans (h1.mono b11.size)
              clear HV11 HW11 HA11 c1 h1
              go_wp2_with fail
              exact ⟨⟨k + 1, by omega, by go_num, HV12.out, HW12.out, HA12.out, b12⟩, by simp [intOf]; omega⟩
            · obtain rfl : k = 8 := by omega
              obtain ⟨L, hL⟩ : ∃ L, lsC W 8 = L := ⟨_, rfl⟩
              have HL := Hid.mk_ hL
              have hlen := ls_len W 8
              rw [hL] at hlen
              have hL8 := cnt_le (fun k => !(W.q k == 0)) 8
              rw [← hlen] at hL8
              have hcl := count_le L V
              have c0 : count (hears V L) L = 0 := by
                refine count_zero L _ (ok_hears okV L) fun cl hcm hgd => ?_
                rw [← hL] at hcm
                have hg2 := ls_good okW hcm
                have hn := (good_iff cl).1 hgd
                have h3 := (hears_K cl.n.toNat L V okV).1
                have h4 := mx_ls okW cl.n.toNat (by omega)
                rw [hL] at h4
                rw [h3, h4, hg2.2]
                omega
              clear hL
              go_wp2_with fail
              refine (join0 V W.p W.q gv gw _ HV7 HW7 L HL).mono ?_
              rintro e w8 ⟨rfl, hv8, hg8⟩
              have HV8 := Hid.mk_ hv8
              have HW8 := Hid.mk_ (vw_far HW7.out hg8 (by omega))
              have b8 := below_row b7 hg8 b7.size (by omega)
              clear hv8 HV7 HW7 HA7
              go_wp2_with fail
              refine (all0 W.p W.q gw _ HW8).mono ?_
              rintro e w9 ⟨v9, rfl, h9, hb9⟩
              obtain ⟨A9, c9, rfl⟩ := own_form h9
              clear h9
              rw [← hlen]
              have HV9 := Hid.mk_ (HV8.out.below hb9 HV8.out.lt)
              have HW9 := Hid.mk_ (HW8.out.below hb9 HW8.out.lt)
              have b9 := b8.trans (hb9.mono b8.size)
              clear HV8 HW8
              generalize hears V L = V' at HV9 c0
              generalize count V L = n1 at hcl
              generalize L.length = n2 at hcl hL8
              go_wp2_with fail
              refine (join0 V' W.p W.q gv gw _ HV9 HW9 L HL).mono ?_
              rintro e w10 ⟨he, _, hg10⟩
              obtain rfl : e = .returned (.int .i64 0) := by rw [he, c0]; rfl
              have b10 := below_row b9 hg10 b9.size (by omega)
              go_wp2_with fail
              refine Calls.cells (awakeB _) ?_
              intro w11 hb11 hc11
              go_wp2_with fail
              go_ret
              exact ⟨rfl, b10.trans (hb11.mono b10.size)⟩
def sh0 : Sh := shC
def sh1 : Sh := shC
theorem walk (w : World) (A : Option Addr) (n c : Nat) (h : RD w (.slice sh0) [.slice A n c]) (A' : Option Addr) (n' c' : Nat) (h' : RD w (.slice sh1) [.slice A' n' c']) : Calls Try.prog 11 #[.slice A n c, .slice A' n' c'] w fun e w' => e = .returned (.bool true) ∧ Below w.heap.size w w' := by
  obtain ⟨ls, rfl, hl, hn, hc⟩ := rd_claims h
  obtain ⟨ms, rfl, hm, hn', hc'⟩ := rd_claims h'
  by_cases hz : 80 < wrap64 ((ls.length : Int) + (ms.length : Int))
  · exact long A A' _ c _ c' w hz
  · exact short A A' ls ms c c' w hl hm hz (by unfold maxLen at hc; omega) (by unfold maxLen at hc'; omega)
end Go.Proofs.Ythobimdnjggkfaa.WBeliefCopy
