/- WatchTies: the walk of the law: of one moment the lower id is due first. Condition: the row lies in memory. -/
import Derived.Test.YtoikadgfbjjfiaaHpO
namespace Go.Proofs.Ytoikadgfbjjfiaa.WWatchTies
open Go.RowKit Kit Wat Wat.Ints
set_option linter.unusedVariables false
theorem big (A : Option Addr) (n c : Nat) (a : Int) (w : World) (h : 60 < n) (hm : n ≤ 9223372036854775807) :
    Calls Try.prog 3 #[.slice A n c, .int .i64 a] w fun e w' => e = .returned (.bool true) ∧ Below w.heap.size w w' := by
  go_enter Try.func3, Try.ntmps3
  go_wp2_with (go_at_call 15; refine (awake _).mono ?_; rintro e w5 ⟨rfl, b5⟩)
  go_ret
  exact ⟨rfl, b5⟩
set_option maxRecDepth 100000 in
set_option maxHeartbeats 2000000 in
theorem small (A : Option Addr) (n c : Nat) (zs : List Int) (a : Int) (w : World) (hr : Hid (Row w A zs)) (hn : Hid (n = zs.length)) (hm : n ≤ 60) (hc : n ≤ c) :
    Calls Try.prog 3 #[.slice A n c, .int .i64 a] w fun e w' => e = .returned (.bool true) ∧ Below w.heap.size w w' := by
  go_enter Try.func3, Try.ntmps3
  go_upto_region 4 with fail
  obtain ⟨y, y0, y1, ey⟩ := modm a 1099511627776 (by omega) (by omega)
  rw [ey]
  clear ey
  go_wp2_with (go_at_call 16; refine (new0 _).mono ?_; rintro e w1 ⟨g, rfl, h1, hg, b1⟩)
  go_loopw [7, 21] (fun _ i wr => ∃ (k : Nat) (A' : Option Addr) (L : List Mom), i = .int .i64 (k : Int) ∧ k ≤ n ∧ Hid (Clk wr g A' L) ∧ Hid (∀ m ∈ L, m.at_ = y) ∧ Hid (0 < L.length ↔ 0 < k) ∧ Hid (Below w.heap.size w wr)) (fun _ i _ => n - (intOf i).toNat)
  case atStart => exact ⟨0, none, [], rfl, by omega, h1, Hid.mk_ (fun _ h => absurd h List.not_mem_nil), Hid.mk_ (by simp), Hid.mk_ b1⟩
  case round =>
    obtain ⟨k, A', L, rfl, hk, hclk, hat, hlen, hb⟩ := hrel
    by_cases hlt : k < n
    · obtain ⟨x, hx⟩ : ∃ x, zs[k]? = some x := ⟨_, List.getElem?_eq_getElem (by have := hn.out; omega)⟩
      obtain ⟨b0, o0, rfl, c0⟩ := (hr.out.keep fun b _ _ hlt => hb.out.block b hlt) k x hx
      clear hx
      have l1 : (k : Int) < (n : Int) := by omega
      have l0 : (0 : Int) ≤ (k : Int) := by omega
      go_upto_region 8 with fail
      obtain ⟨z, z0, z1, ez⟩ := modm x 1000 (by omega) (by omega)
      have hok : okM z y = true := okM_iff.2 ⟨by omega, by omega, by omega, by omega⟩
      have HOK := Hid.mk_ hok
      have HY := Hid.mk_ (And.intro y0 y1)
      have EZ := Hid.mk_ ez
      clear y0 y1 z0 z1 hok ez
      go_wp2_with (go_at_call 17; rw [EZ.out]; refine (set0 _ g A' L z y hclk true (Hid.mk_ HOK.out.symm) (setL z y L) (Hid.mk_ (setLq_ok HOK.out).symm)).mono ?_; rintro e w2 ⟨rfl, t2⟩)
      obtain ⟨A2, k2, f2, r2⟩ := t2.out
      have c2 := hclk.out.wrBelow r2 hg.out
      go_roundw
      case rel => exact ⟨k + 1, A2, setL z y L, by go_num, by omega, Hid.mk_ k2, Hid.mk_ (fun m hm => by
        rcases setL_mem.1 hm with rfl | ⟨h, _⟩
        · rfl
        · exact hat.out m h), Hid.mk_ (by have := setL_len z y L; omega), Hid.mk_ (hb.out.trans c2)⟩
      case measure => simp [intOf]; omega
    · obtain rfl : k = n := by omega
      have hall := due_all (now := y) (L := L) (fun m hm => by rw [hat.out m hm]; omega)
      have hord := hclk.out.st.same_at hat.out
      obtain ⟨D, hD⟩ : ∃ D, D = L.map Mom.id := ⟨_, rfl⟩
      rw [← hD] at hall hord
      have hDl : D.length = L.length := by rw [hD]; simp
      have HA := Hid.mk_ hall
      have HO := Hid.mk_ hord
      have HL := Hid.mk_ (And.intro hDl hlen.out)
      clear hall hord hD hDl
      go_upto_region 11 with (go_at_call 18; refine (due0 _ g A' L y hclk D (Hid.mk_ HA.out.1) [] (Hid.mk_ HA.out.2)).mono ?_; rintro e w3 ⟨B, d, c3, rfl, o3, h3, r3⟩)
      have b3 := Hid.mk_ (hb.out.trans (hclk.out.wrBelow r3.out hg.out))
      obtain ⟨ed, hrow, _⟩ := o3.out.row
      have HD := Hid.mk_ ed
      have HR := Hid.mk_ hrow
      obtain ⟨hd1, hd2⟩ := o3.out.bounds
      have hd3 : d ≤ 1000 := by have := hclk.out.st.len; have := HL.out.1; omega
      clear ed hrow
      go_wp2_with fail
      have HZ := Hid.mk_ hm
      clear hm hlt hk
      go_loopw [9] (fun i wr => ∃ q : Nat, i = .int .i64 (q : Int) ∧ 1 ≤ q ∧ q ≤ d + 1 ∧ Hid (Below w3.heap.size w3 wr)) (fun i _ => d + 1 - (intOf i).toNat)
      case atStart => exact ⟨1, rfl, by omega, by omega, Hid.mk_ (Below.refl _ _)⟩
      case round =>
        obtain ⟨q, rfl, hq1, hq2, hbb⟩ := hrel
        by_cases hqd : q < d
        · obtain ⟨p, hp⟩ : ∃ p, q = p + 1 := ⟨q - 1, by omega⟩
          obtain ⟨u, hu⟩ : ∃ u, D[q]? = some u := ⟨_, List.getElem?_eq_getElem (by have := HD.out; omega)⟩
          obtain ⟨v, hv⟩ : ∃ v, D[p]? = some v := ⟨_, List.getElem?_eq_getElem (by have := HD.out; omega)⟩
          have huv : v < u := by
            obtain ⟨hu1, rfl⟩ := List.getElem?_eq_some_iff.1 hu
            obtain ⟨hv1, rfl⟩ := List.getElem?_eq_some_iff.1 hv
            exact List.pairwise_iff_getElem.1 HO.out p q hv1 hu1 (by omega)
          obtain ⟨b5, o5, rfl, c5⟩ := (HR.out.below hbb.out) q u hu
          obtain ⟨b6, o6, e6, c6⟩ := (HR.out.below hbb.out) p v hv
          injection e6 with e6
          injection e6 with e61 e62
          subst e61 e62
          have j0 : (0 : Int) ≤ (q : Int) := by omega
          have j1 : (q : Int) < (d : Int) := by omega
          have j2 : (q : Int) - 1 = (p : Int) := by omega
          have j3 : (0 : Int) ≤ (p : Int) := by omega
          have j4 : (p : Int) < (d : Int) := by omega
          have j5 : ¬ u ≤ v := by omega
          clear hu hv hp
          go_wp2_with fail
          go_region
          go_wp2_with fail
          go_roundw
          case rel => exact ⟨q + 1, by go_num, by omega, by omega, Hid.mk_ hbb.out.drew⟩
          case measure => simp [intOf]; omega
        · have j1 : ¬ (q : Int) < (d : Int) := by omega
          have H4 := Hid.mk_ (h3.out.below hbb.out)
          have B4 := Hid.mk_ (b3.out.trans (hbb.out.mono b3.out.size))
          by_cases hk0 : 0 < k
          · have d0 : (0 : Int) < (d : Int) := by have := HL.out; have := HD.out; omega
            have k0 : (0 : Int) < (k : Int) := by omega
            clear hk0
            go_wp2_with (first | (go_at_call 19; refine (len _ g A' [] H4 0 (Hid.mk_ rfl)).mono ?_; rintro e w5 ⟨rfl, rfl⟩) | (go_at_call 15; refine (awake _).mono ?_; rintro e w6 ⟨rfl, b6⟩))
            go_ret
            exact ⟨rfl, B4.out.trans (b6.mono B4.out.size)⟩
          · have d0 : ¬ (0 : Int) < (d : Int) := by have := HL.out; have := HD.out; omega
            have k0 : ¬ (0 : Int) < (k : Int) := by omega
            clear hk0
            go_wp2_with (first | (go_at_call 19; refine (len _ g A' [] H4 0 (Hid.mk_ rfl)).mono ?_; rintro e w5 ⟨rfl, rfl⟩) | (go_at_call 15; refine (awake _).mono ?_; rintro e w6 ⟨rfl, b6⟩))
            go_ret
            exact ⟨rfl, B4.out.trans (b6.mono B4.out.size)⟩
def sh0 : Sh := .int .i64
theorem walk (w : World) (A : Option Addr) (n c : Nat) (h : RD w (.slice sh0) [.slice A n c]) (a : Int) (ha : (Lit.int .i64 a).wf = true) :
    Calls Try.prog 3 #[.slice A n c, .int .i64 a] w fun e w' => e = .returned (.bool true) ∧ Below w.heap.size w w' := by
  obtain ⟨zs, h1, h2, h3, h4, _⟩ := rd_ints h
  by_cases h60 : 60 < n
  · exact big A n c a w h60 (by omega)
  · exact small A n c zs a w (Hid.mk_ h2) (Hid.mk_ h1.symm) (by omega) h3
end Go.Proofs.Ytoikadgfbjjfiaa.WWatchTies
