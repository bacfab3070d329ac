/- Chapter 4, the document's own: another order, some, has. Conditions: the rows lie in memory. -/
import Derived.Test.YthobimdnjggkfaaPrQ
namespace Go.Proofs.Ythobimdnjggkfaa.Prb
open Go.RowKit Kit
set_option linter.unusedVariables false
set_option maxHeartbeats 2000000 in
theorem shuffleR0 (A : Option Addr) (n c : Nat) (zs : List Int) (d : Int) (w : World) (hr : Hid (Row w A zs)) (hn : Hid (n = zs.length)) (hm : n ≤ 64) (hc : n ≤ c) (hd : Hid (0 ≤ d)) :
    Calls Try.prog 27 #[.slice A n c, .int .u64 d] w (Made w (shuf n d zs)) := by
  have h0 : (0 : Int) ≤ (n : Int) := by omega
  have h1 : (n : Int) ≤ (c : Int) := by omega
  go_enter Try.func27, Try.ntmps27
  go_wp2_with (at_builtin; refine wpList_app _ rfl _ _ rfl w.heap.size _ [] rfl (Own.nil _ _) _ zs _ c rfl (by have := hn.out; omega) hr.out (by have := hn.out; simp; omega) (Nat.le_refl _) ?_; intro v1 w1 hown hb1; rw [List.nil_append] at hown; obtain ⟨A1, c1, rfl, _⟩ := hown.form; have nn : zs.length ≤ 64 := (by have := hn.out; omega))
  obtain ⟨_, _, e1, hc1, hc1'⟩ := hown.form
  injection e1 with e1 e2 e3
  subst e1 e3
  clear e2
  unfold maxLen at hc1'
  go_wp2_with fail
  go_loopw [6, 7] (fun x i wr => ∃ (m : Nat) (x0 : Int) (l : List Int), i = .int .i64 ((m : Int) - 1) ∧ x = .int .u64 x0 ∧ m ≤ zs.length ∧ Hid (0 ≤ x0) ∧ Hid (l.length = zs.length) ∧ Hid (Own wr w.heap.size (.slice A1 zs.length c1) l) ∧ Hid (Below w.heap.size w wr) ∧ Hid (shuf m x0 l = shuf n d zs)) (fun _ i _ => (intOf i).toNat)
  case atStart => exact ⟨zs.length, d, zs, rfl, rfl, by omega, hd, Hid.mk_ rfl, Hid.mk_ hown, Hid.mk_ hb1, Hid.mk_ (by rw [← hn.out])⟩
  case round =>
    obtain ⟨m, x0, l, rfl, rfl, hmz, hx0, hlz, hown, hbl, hsh⟩ := hrel
    by_cases hlt : 2 ≤ m
    · obtain ⟨m, rfl⟩ : ∃ k, m = k + 2 := ⟨m - 2, by omega⟩
      go_upto_region 8 with fail
      obtain ⟨g, rfl, hg, hgz, hcell⟩ := Own.some_ hown.out (by have := hlz.out; omega)
      rw [show IntKind.u64.wrap (IntKind.u64.wrap (x0 * 6364136223846793005) + 1442695040888963407) = stepX x0 by unfold stepX; rw [Int.mul_comm], kOf_eq2 (stepX x0) m (stepX_nonneg x0) (by omega)]
      have hs2 : shuf (m + 2) x0 l = shuf (m + 1) (stepX x0) (swp l (m + 1) (kOf (stepX x0) (m + 1))) := rfl
      rw [hs2] at hsh
      have hkm := kOf_le (stepX x0) (m + 1)
      have hx1 := Hid.mk_ (stepX_nonneg x0)
      generalize kOf (stepX x0) (m + 1) = k at hsh hkm
      generalize stepX x0 = x1 at hsh hx1
      obtain ⟨y, hy⟩ : ∃ y, l[m + 1]? = some y := ⟨_, List.getElem?_eq_getElem (by have := hlz.out; omega)⟩
      obtain ⟨z, hz⟩ : ∃ z, l[k]? = some z := ⟨_, List.getElem?_eq_getElem (by have := hlz.out; omega)⟩
      obtain ⟨c1y, f1⟩ := hcell _ _ hy
      obtain ⟨c1z, f2⟩ := hcell _ _ hz
      have HY := Hid.mk_ hy
      have HZ := Hid.mk_ hz
      clear hy hz hcell hs2
      have em : ((m + 2 : Nat) : Int) - 1 = (m : Int) + 1 := by omega
      rw [em]
      have lt1 : (m : Int) + 1 < (zs.length : Int) := by omega
      have lt2 : (k : Int) < (zs.length : Int) := by omega
      have lt3 : (0 : Int) ≤ (m : Int) + 1 := by omega
      have lt4 : (0 : Int) ≤ (k : Int) := by omega
      obtain ⟨O1, B1⟩ := hown.out.set (m + 1) z
      obtain ⟨u, hu⟩ : ∃ u, (l.set (m + 1) z)[k]? = some u := ⟨_, List.getElem?_eq_getElem (by have := hlz.out; rw [List.length_set]; omega)⟩
      obtain ⟨g', e1, _, _, hcell⟩ := Own.some_ O1 (by have := hlz.out; rw [List.length_set]; omega)
      injection e1 with e1
      injection e1 with e1
      subst e1
      obtain ⟨c3, f3⟩ := hcell _ _ hu
      have O2 := Hid.mk_ (O1.set k y)
      clear hcell O1 hu
      have B1' := Hid.mk_ B1
      clear B1
      go_region
      have hsw : swp l (m + 1) k = (l.set (m + 1) z).set k y := by
        unfold swp
        rw [HY.out, HZ.out]
        rfl
      rw [hsw] at hsh
      have L2 := hlz.out
      clear hx0 HY HZ c1y f1 c1z f2 c3 f3
      go_wp2_with fail
      go_roundw
      case rel => exact ⟨m + 1, x1, _, by go_num, rfl, by omega, hx1, Hid.mk_ (by simpa using L2), Hid.mk_ O2.out.1.drew, Hid.mk_ (hbl.out.trans (B1'.out.trans O2.out.2.drew)), hsh⟩
      case measure => simp [intOf]; omega
    · go_wp2_with fail
      go_ret
      have e : shuf m x0 l = l := by
        have : m = 0 ∨ m = 1 := by omega
        rcases this with rfl | rfl <;> rfl
      have hsh := hsh.out
      rw [e] at hsh
      rw [← hsh]
      have := hlz.out
      refine ⟨A1, c1, by rw [this]; rfl, by rw [this]; exact hown.out, hbl.out⟩
set_option maxHeartbeats 2000000 in
theorem shuffleR64 (A : Option Addr) (n0 c : Nat) (zs : List Int) (d : Int) (w : World) (hr : Hid (Row w A zs)) (hn : Hid (64 = zs.length)) (hm : 64 < n0) (hm' : n0 ≤ 9223372036854775807) (hc : n0 ≤ c) (hd : Hid (0 ≤ d)) :
    Calls Try.prog 27 #[.slice A n0 c, .int .u64 d] w (Made w (shuf 64 d zs)) := by
  have h0 : (64 : Int) < (n0 : Int) := by omega
  have h1 : (64 : Int) ≤ (c : Int) := by omega
  go_enter Try.func27, Try.ntmps27
  go_wp2_with (at_builtin; refine wpList_app _ rfl _ _ rfl w.heap.size _ [] rfl (Own.nil _ _) _ zs _ c rfl (by have := hn.out; omega) hr.out (by have := hn.out; simp; omega) (Nat.le_refl _) ?_; intro v1 w1 hown hb1; rw [List.nil_append] at hown; obtain ⟨A1, c1, rfl, _⟩ := hown.form; have nn : zs.length ≤ 64 := (by have := hn.out; omega))
  obtain ⟨_, _, e1, hc1, hc1'⟩ := hown.form
  injection e1 with e1 e2 e3
  subst e1 e3
  clear e2
  unfold maxLen at hc1'
  go_wp2_with fail
  go_loopw [6, 7] (fun x i wr => ∃ (m : Nat) (x0 : Int) (l : List Int), i = .int .i64 ((m : Int) - 1) ∧ x = .int .u64 x0 ∧ m ≤ zs.length ∧ Hid (0 ≤ x0) ∧ Hid (l.length = zs.length) ∧ Hid (Own wr w.heap.size (.slice A1 zs.length c1) l) ∧ Hid (Below w.heap.size w wr) ∧ Hid (shuf m x0 l = shuf 64 d zs)) (fun _ i _ => (intOf i).toNat)
  case atStart => exact ⟨zs.length, d, zs, rfl, rfl, by omega, hd, Hid.mk_ rfl, Hid.mk_ hown, Hid.mk_ hb1, Hid.mk_ (by rw [← hn.out])⟩
  case round =>
    obtain ⟨m, x0, l, rfl, rfl, hmz, hx0, hlz, hown, hbl, hsh⟩ := hrel
    by_cases hlt : 2 ≤ m
    · obtain ⟨m, rfl⟩ : ∃ k, m = k + 2 := ⟨m - 2, by omega⟩
      go_upto_region 8 with fail
      obtain ⟨g, rfl, hg, hgz, hcell⟩ := Own.some_ hown.out (by have := hlz.out; omega)
      rw [show IntKind.u64.wrap (IntKind.u64.wrap (x0 * 6364136223846793005) + 1442695040888963407) = stepX x0 by unfold stepX; rw [Int.mul_comm], kOf_eq2 (stepX x0) m (stepX_nonneg x0) (by omega)]
      have hs2 : shuf (m + 2) x0 l = shuf (m + 1) (stepX x0) (swp l (m + 1) (kOf (stepX x0) (m + 1))) := rfl
      rw [hs2] at hsh
      have hkm := kOf_le (stepX x0) (m + 1)
      have hx1 := Hid.mk_ (stepX_nonneg x0)
      generalize kOf (stepX x0) (m + 1) = k at hsh hkm
      generalize stepX x0 = x1 at hsh hx1
      obtain ⟨y, hy⟩ : ∃ y, l[m + 1]? = some y := ⟨_, List.getElem?_eq_getElem (by have := hlz.out; omega)⟩
      obtain ⟨z, hz⟩ : ∃ z, l[k]? = some z := ⟨_, List.getElem?_eq_getElem (by have := hlz.out; omega)⟩
      obtain ⟨c1y, f1⟩ := hcell _ _ hy
      obtain ⟨c1z, f2⟩ := hcell _ _ hz
      have HY := Hid.mk_ hy
      have HZ := Hid.mk_ hz
      clear hy hz hcell hs2
      have em : ((m + 2 : Nat) : Int) - 1 = (m : Int) + 1 := by omega
      rw [em]
      have lt1 : (m : Int) + 1 < (zs.length : Int) := by omega
      have lt2 : (k : Int) < (zs.length : Int) := by omega
      have lt3 : (0 : Int) ≤ (m : Int) + 1 := by omega
      have lt4 : (0 : Int) ≤ (k : Int) := by omega
      obtain ⟨O1, B1⟩ := hown.out.set (m + 1) z
      obtain ⟨u, hu⟩ : ∃ u, (l.set (m + 1) z)[k]? = some u := ⟨_, List.getElem?_eq_getElem (by have := hlz.out; rw [List.length_set]; omega)⟩
      obtain ⟨g', e1, _, _, hcell⟩ := Own.some_ O1 (by have := hlz.out; rw [List.length_set]; omega)
      injection e1 with e1
      injection e1 with e1
      subst e1
      obtain ⟨c3, f3⟩ := hcell _ _ hu
      have O2 := Hid.mk_ (O1.set k y)
      clear hcell O1 hu
      have B1' := Hid.mk_ B1
      clear B1
      go_region
      have hsw : swp l (m + 1) k = (l.set (m + 1) z).set k y := by
        unfold swp
        rw [HY.out, HZ.out]
        rfl
      rw [hsw] at hsh
      have L2 := hlz.out
      clear hx0 HY HZ c1y f1 c1z f2 c3 f3
      go_wp2_with fail
      go_roundw
      case rel => exact ⟨m + 1, x1, _, by go_num, rfl, by omega, hx1, Hid.mk_ (by simpa using L2), Hid.mk_ O2.out.1.drew, Hid.mk_ (hbl.out.trans (B1'.out.trans O2.out.2.drew)), hsh⟩
      case measure => simp [intOf]; omega
    · go_wp2_with fail
      go_ret
      have e : shuf m x0 l = l := by
        have : m = 0 ∨ m = 1 := by omega
        rcases this with rfl | rfl <;> rfl
      have hsh := hsh.out
      rw [e] at hsh
      rw [← hsh]
      have := hlz.out
      refine ⟨A1, c1, by rw [this]; rfl, by rw [this]; exact hown.out, hbl.out⟩
theorem shuffleR (A : Option Addr) (n c : Nat) (zs : List Int) (d : Int) (w : World) (hr : Hid (Row w A zs)) (hn : Hid (n = zs.length)) (hm : n ≤ 9223372036854775807) (hc : n ≤ c) (hd : Hid (0 ≤ d)) :
    Calls Try.prog 27 #[.slice A n c, .int .u64 d] w (Made w (shuf (zs.take 64).length d (zs.take 64))) := by
  have h := hn.out
  by_cases h64 : 64 < n
  · have := shuffleR64 A n c (zs.take 64) d w (Hid.mk_ (hr.out.take 64)) (Hid.mk_ (by simp; omega)) h64 hm hc hd
    rwa [show (zs.take 64).length = 64 by simp; omega]
  · rw [List.take_of_length_le (by omega), ← h]
    exact shuffleR0 A n c zs d w hr hn (by omega) hc hd
theorem shuffleR8 (A : Option Addr) (n c : Nat) (zs : List Int) (d : Int) (w : World) (hr : Hid (Row w A zs)) (hn : Hid (n = zs.length)) (hm : n ≤ 64) (hc : n ≤ c) (hd : Hid (0 ≤ d)) :
    Calls Try.prog 27 #[.slice A n c, .int .u64 d] w (Made w (shuf zs.length d zs)) := by
  have := hn.out
  have h := shuffleR A n c zs d w hr hn (by omega) hc hd
  rwa [List.take_of_length_le (by omega)] at h
theorem someR0 (A : Option Addr) (n c : Nat) (zs : List Int) (k d : Int) (w : World) (hr : Hid (Row w A zs)) (hn : Hid (n = zs.length)) (hm : n ≤ 9223372036854775807) (hc : n ≤ c) (hd : Hid (0 ≤ d))
    (s : List Int) (hs : Hid (shuf (zs.take 64).length d (zs.take 64) = s)) (r : Nat) (hrr : Hid (many k s.length = r)) :
    Calls Try.prog 28 #[.slice A n c, .int .i64 k, .int .u64 d] w (Part w s r) := by
  go_enter Try.func28, Try.ntmps28
  go_wp2_with fail
  refine (shuffleR A n c zs d w hr hn hm hc hd).mono ?_
  rintro e w1 ⟨A1, c1, rfl, hown, hb⟩
  rw [hs.out] at hown ⊢
  obtain ⟨m, em⟩ : ∃ m, m = s.length := ⟨_, rfl⟩
  rw [← em] at hown ⊢
  have EM := Hid.mk_ em
  obtain ⟨hc1, hm1⟩ := hown.bounds
  have me := many_eq k m
  have ml := many_le k m
  rw [em, hrr.out, ← em] at me ml
  clear em
  have r0 : (0 : Int) ≤ (r : Int) := by omega
  have r1 : (r : Int) ≤ (c1 : Int) := by omega
  have mm : min k (m : Int) ≤ (m : Int) := by omega
  go_wp2_with fail
  go_ret
  exact ⟨A1, c1, rfl, by rw [← EM.out]; exact hown, by rw [← EM.out]; exact ml, hb⟩
set_option maxHeartbeats 1000000 in
/-- r1.has. -/
theorem has (A : Option Addr) (n c : Nat) (zs : List Int) (x : Int) (w : World) (hr : Hid (Row w A zs)) (hn : Hid (n = zs.length)) (hm : n ≤ 9223372036854775807) (q : Bool) (hq : Hid (q = decide (x ∈ zs))) :
    Calls Try.prog 42 #[.slice A n c, .int .i64 x] w fun e w' => e = .returned (.bool q) ∧ Below w.heap.size w w' := by
  go_enter Try.func42, Try.ntmps42
  go_wp2_with fail
  go_loop [9] (fun i => ∃ k : Nat, k ≤ n ∧ i = .int .i64 (k : Int) ∧ Hid (∀ j, j < k → zs[j]? ≠ some x)) (fun i => n - (intOf i).toNat)
  case atStart => exact ⟨0, by omega, rfl, Hid.mk_ (fun j hj => by omega)⟩
  case round =>
    obtain ⟨k, hk, rfl, HP⟩ := hrel
    by_cases hlt : k < n
    · obtain ⟨y, hy⟩ : ∃ y, zs[k]? = some y := ⟨_, List.getElem?_eq_getElem (by have := hn.out; omega)⟩
      obtain ⟨b, off, rfl, hc⟩ := hr.out k y hy
      have HY := Hid.mk_ hy
      clear hy
      by_cases he : y = x
      · go_wp2_with fail
        go_ret
        exact ⟨by rw [hq.out]; simp [← he, List.mem_of_getElem? HY.out], by go_grown⟩
      · go_wp2_with fail
        go_round
        case rel =>
          refine ⟨k + 1, by omega, by go_num, Hid.mk_ (fun j hj => ?_)⟩
          by_cases e : j = k
          · subst e
            rw [HY.out]
            intro h
            exact he (by simpa using h)
          · exact HP.out j (by omega)
        case measure => simp [intOf]; omega
    · obtain rfl : k = n := by omega
      go_wp2_with fail
      go_ret
      refine ⟨?_, by go_grown⟩
      have : ¬ x ∈ zs := fun hm => by
        obtain ⟨j, hj⟩ := List.getElem?_of_mem hm
        exact HP.out j (by have := (List.getElem?_eq_some_iff.1 hj).1; have := hn.out; omega) hj
      rw [hq.out]
      simp [this]
end Go.Proofs.Ythobimdnjggkfaa.Prb
