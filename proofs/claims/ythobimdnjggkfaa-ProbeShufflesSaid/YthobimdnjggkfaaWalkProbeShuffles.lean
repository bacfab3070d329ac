/- ProbeShuffles: the walk of the law: what is shuffled is the same, in another order. Condition: the row lies in memory. -/
import Derived.Test.YthobimdnjggkfaaPrS
namespace Go.Proofs.Ythobimdnjggkfaa.WProbeShuffles
open Go.RowKit Kit Prb
set_option linter.unusedVariables false
theorem big (A : Option Addr) (n c : Nat) (d k : Int) (w : World) (h : 64 < n) (hm : n ≤ 9223372036854775807) :
    Calls Try.prog 3 #[.slice A n c, .int .u64 d, .int .i64 k] w fun e w' => e = .returned (.bool true) ∧ Below w.heap.size w w' := by
  go_enter Try.func3, Try.ntmps3
  go_wp2_with fail
  refine Calls.cells (awakeP _) ?_
  intro w3 h3 c3
  go_wp2_with fail
  go_ret
  exact ⟨rfl, h3⟩
set_option maxHeartbeats 4000000 in
theorem small (A : Option Addr) (n c : Nat) (zs : List Int) (d k : Int) (w : World) (hr : Hid (Row w A zs)) (hn : Hid (n = zs.length)) (hm : n ≤ 64) (hc : n ≤ c) (hd : Hid (0 ≤ d)) :
    Calls Try.prog 3 #[.slice A n c, .int .u64 d, .int .i64 k] w fun e w' => e = .returned (.bool true) ∧ Below w.heap.size w w' := by
  obtain ⟨s, hs⟩ : ∃ s, shuf zs.length d zs = s := ⟨_, rfl⟩
  have HS := Hid.mk_ hs
  have hcnt := shuf_count zs.length d zs (Nat.le_refl _)
  have hlen := shuf_len zs.length d zs
  rw [hs] at hcnt hlen
  rw [← hn.out] at hlen
  have HC := Hid.mk_ hcnt
  have HL := Hid.mk_ hlen
  clear hs hcnt hlen
  go_enter Try.func3, Try.ntmps3
  go_wp2_with fail
  refine (shuffle8 A n c zs d _ hr hn hm hc hd).mono ?_
  rintro e w1 ⟨A1, c1, rfl, own1, b1⟩
  rw [HS.out, HL.out] at own1 ⊢
  have R1 := Hid.mk_ (hr.out.below b1)
  obtain ⟨hc1, hm1⟩ := own1.bounds
  have O1 := Hid.mk_ own1
  clear own1
  go_wp2_with fail
  refine (shuffle8 A n c zs d _ R1 hn hm hc hd).mono ?_
  rintro e w2 ⟨A2, c2, rfl, own2, b2⟩
  rw [HS.out, HL.out] at own2 ⊢
  have R2 := Hid.mk_ (R1.out.below b2)
  have O2 := Hid.mk_ (O1.out.keep b2)
  have B2 := b1.trans (b2.mono b1.size)
  have P2 := Hid.mk_ own2.row.2.1
  clear own2 R1 O1
  go_wp2_with fail
  refine Calls.cells (same A1 A2 n c1 n c2 s s _ (Hid.mk_ O2.out.row.2.1) (Hid.mk_ HL.out.symm) (by omega) P2 (Hid.mk_ HL.out.symm) (by omega) true (Hid.mk_ (by simp))) ?_
  intro w3 b3 _
  have R3 := Hid.mk_ (R2.out.below b3)
  have O3 := Hid.mk_ (O2.out.keep b3)
  have B3 := Hid.mk_ (B2.trans (b3.mono B2.size))
  have S3 := Hid.mk_ O3.out.row.2.1
  clear R2 O2 P2 B2 b1 b2 b3
  go_wp2_with fail
  go_loop [35] (fun i => ∃ j : Nat, j ≤ n ∧ i = .int .i64 (j : Int)) (fun i => n - (intOf i).toNat)
  case atStart => exact ⟨0, by omega, rfl⟩
  case round =>
    obtain ⟨j, hj, rfl⟩ := hrel
    by_cases hlt : j < n
    · obtain ⟨x, hx⟩ : ∃ x, zs[j]? = some x := ⟨_, List.getElem?_eq_getElem (by have := hn.out; omega)⟩
      obtain ⟨b1, o1, rfl, cx⟩ := R3.out j x hx
      clear hx
      go_wp2_with fail
      go_loop [10, 41] (fun v i => ∃ (t : Nat) (m : Int), t ≤ n ∧ i = .int .i64 (t : Int) ∧ v = .int .i64 m ∧ Hid (m = ((zs.take t).count x : Int) - ((s.take t).count x : Int))) (fun _ i => n - (intOf i).toNat)
      case atStart => exact ⟨0, 0, by omega, rfl, rfl, Hid.mk_ (by simp)⟩
      case round =>
        obtain ⟨t, m, ht, rfl, rfl, hmt⟩ := hrel
        have m1 : m ≤ 64 := by have := hmt.out; have := count_take_le zs t x; omega
        have m2 : -64 ≤ m := by have := hmt.out; have := count_take_le s t x; omega
        by_cases hlt2 : t < n
        · obtain ⟨y, hy⟩ : ∃ y, zs[t]? = some y := ⟨_, List.getElem?_eq_getElem (by have := hn.out; omega)⟩
          obtain ⟨z, hz⟩ : ∃ z, s[t]? = some z := ⟨_, List.getElem?_eq_getElem (by have := HL.out; omega)⟩
          obtain ⟨b2, o2, e2, cy⟩ := R3.out t y hy
          injection e2 with e2
          injection e2 with e2 e3
          subst e2 e3
          obtain ⟨b3, o3, rfl, cz⟩ := S3.out t z hz
          have CY := Hid.mk_ (count_step zs t y x hy)
          have CZ := Hid.mk_ (count_step s t z x hz)
          clear hy hz
          by_cases h1 : y = x
          · subst h1
            by_cases h2 : z = y
            · subst h2
              go_wp2_with fail
              go_round
              case rel => exact ⟨t + 1, m, by omega, by go_num, by go_num, Hid.mk_ (by rw [CY.out, CZ.out, hmt.out]; simp; omega)⟩
              case measure => simp [intOf]; omega
            · go_wp2_with fail
              go_round
              case rel => exact ⟨t + 1, m + 1, by omega, by go_num, by go_num, Hid.mk_ (by rw [CY.out, CZ.out, hmt.out, if_pos rfl, if_neg h2]; omega)⟩
              case measure => simp [intOf]; omega
          · by_cases h2 : z = x
            · subst h2
              go_wp2_with fail
              go_round
              case rel => exact ⟨t + 1, m - 1, by omega, by go_num, by go_num, Hid.mk_ (by rw [CY.out, CZ.out, hmt.out, if_pos rfl, if_neg h1]; omega)⟩
              case measure => simp [intOf]; omega
            · go_wp2_with fail
              go_round
              case rel => exact ⟨t + 1, m, by omega, by go_num, by go_num, Hid.mk_ (by rw [CY.out, CZ.out, hmt.out, if_neg h1, if_neg h2]; omega)⟩
              case measure => simp [intOf]; omega
        · obtain rfl : t = n := by omega
          obtain rfl : m = 0 := by
            have h := hmt.out
            rw [List.take_of_length_le (by have := hn.out; omega), List.take_of_length_le (by have := HL.out; omega), HC.out x] at h
            omega
          go_wp2_with fail
          go_round
          case rel => exact ⟨j + 1, by omega, by go_num⟩
          case measure => simp [intOf]; omega
    · obtain rfl : j = n := by omega
      clear S3
      have HS2 : Hid (shuf (zs.take 64).length d (zs.take 64) = s) := Hid.mk_ (by rw [List.take_of_length_le (by have := hn.out; omega)]; exact HS.out)
      obtain ⟨r, hrr⟩ : ∃ r, many k s.length = r := ⟨_, rfl⟩
      have me := many_eq k s.length
      have ml := many_le k s.length
      rw [hrr, HL.out] at me ml
      go_wp2_with fail
      refine (some0 A j c zs k d _ R3 hn (by omega) hc hd s HS2 r (Hid.mk_ hrr)).mono ?_
      rintro e w4 ⟨A4, c4, rfl, own4, hrs, b4⟩
      rw [HL.out] at own4 hrs
      clear hrr
      have S4 := Hid.mk_ ((O3.out.keep b4).row.2.1.take r)
      have T4 := Hid.mk_ (own4.row.2.1.take r)
      have hl4 : Hid (r = (s.take r).length) := Hid.mk_ (by have := HL.out; simp; omega)
      have r0 : (0 : Int) ≤ (r : Int) := by omega
      have r1 : (r : Int) ≤ (c1 : Int) := by omega
      have B4 := B3.out.trans (b4.mono B3.out.size)
      clear own4 O3 B3 b4 R3
      go_wp2_with fail
      refine Calls.cells (same A4 A1 r c4 r c1 (s.take r) (s.take r) _ T4 hl4 (by omega) S4 hl4 (by omega) true (Hid.mk_ (by simp))) ?_
      intro w5 b5 _
      go_wp2_with fail
      refine Calls.cells (awakeP _) ?_
      intro w6 b6 _
      go_wp2_with fail
      go_ret
      have B5 := B4.trans (b5.mono B4.size)
      exact ⟨rfl, B5.trans (b6.mono B5.size)⟩
def sh0 : Sh := .int .i64
theorem walk (w : World) (A : Option Addr) (n c : Nat) (h : RD w (.slice sh0) [.slice A n c]) (d : Int) (hd : (Lit.int .u64 d).wf = true) (k : Int) (hk : (Lit.int .i64 k).wf = true) :
    Calls Try.prog 3 #[.slice A n c, .int .u64 d, .int .i64 k] w fun e w' => e = .returned (.bool true) ∧ Below w.heap.size w w' := by
  obtain ⟨zs, h1, h2, h3, h4, _⟩ := rd_ints h
  by_cases h64 : 64 < n
  · exact big A n c d k w h64 (by omega)
  · exact small A n c zs d k w (Hid.mk_ h2) (Hid.mk_ h1.symm) (by omega) h3 (Hid.mk_ (by
      simp [Lit.wf] at hd
      exact hd.1))
end Go.Proofs.Ythobimdnjggkfaa.WProbeShuffles
