/- Chapter 4: a row in another order. Conditions: the row lies in memory. -/
import Derived.Test.YthobimdnjggkfaaPrB
namespace Go.Proofs.Ythobimdnjggkfaa.Prb
open Go.RowKit Kit
set_option linter.unusedVariables false
def stepX (x : Int) : Int := IntKind.u64.wrap (IntKind.u64.wrap (6364136223846793005 * x) + 1442695040888963407)
theorem stepX_nonneg (x : Int) : 0 ≤ stepX x := by unfold stepX; rw [IntKind.wrap_u64]; omega
def kOf (x : Int) (i : Nat) : Nat := ((x / 8589934592) % ((i : Int) + 1)).toNat
theorem kOf_le (x : Int) (i : Nat) : kOf x i ≤ i := by
  unfold kOf
  have h1 : 0 ≤ (x / 8589934592) % ((i : Int) + 1) := Int.emod_nonneg _ (by omega)
  have h2 : (x / 8589934592) % ((i : Int) + 1) < (i : Int) + 1 := Int.emod_lt_of_pos _ (by omega)
  omega
theorem kOf_eq (x : Int) (i : Nat) (hx : 0 ≤ x) (hi : i ≤ 1000) : wrap64 ((x / 8589934592).tmod ((i : Int) + 1)) = (kOf x i : Int) := by
  have h : 0 ≤ x / 8589934592 := Int.ediv_nonneg hx (by omega)
  unfold kOf
  rw [Int.tmod_eq_emod_of_nonneg h]
  have h1 : 0 ≤ (x / 8589934592) % ((i : Int) + 1) := Int.emod_nonneg _ (by omega)
  have h2 : (x / 8589934592) % ((i : Int) + 1) < (i : Int) + 1 := Int.emod_lt_of_pos _ (by omega)
  generalize (x / 8589934592) % ((i : Int) + 1) = r at h1 h2
  unfold wrap64
  omega
theorem kOf_eq2 (x : Int) (m : Nat) (hx : 0 ≤ x) (hi : m ≤ 900) : wrap64 ((x / 8589934592).tmod ((m : Int) + 2)) = (kOf x (m + 1) : Int) := by
  rw [← kOf_eq x (m + 1) hx (by omega), show ((m + 1 : Nat) : Int) + 1 = (m : Int) + 2 by omega]
def swp (l : List Int) (i k : Nat) : List Int := (l.set i (l[k]?.getD 0)).set k (l[i]?.getD 0)
theorem swp_len (l : List Int) (i k : Nat) : (swp l i k).length = l.length := by simp [swp]
/-- From place m - 1 down, each is swapped with one ahead of it, or itself. -/
def shuf : Nat → Int → List Int → List Int
  | m + 2, x, l => shuf (m + 1) (stepX x) (swp l (m + 1) (kOf (stepX x) (m + 1)))
  | 1, _, l => l
  | 0, _, l => l
theorem shuf_len : ∀ (m : Nat) (x : Int) (l : List Int), (shuf m x l).length = l.length
  | m + 2, x, l => by rw [shuf, shuf_len (m + 1), swp_len]
  | 1, _, l => rfl
  | 0, _, l => rfl
set_option maxHeartbeats 2000000 in
theorem shuffle0 (A : Option Addr) (n c : Nat) (zs : List Int) (d : Int) (w : World) (hr : Hid (Row w A zs)) (hn : Hid (n = zs.length)) (hm : n ≤ 64) (hc : n ≤ c) (hd : Hid (0 ≤ d)) :
    Calls Try.prog 14 #[.slice A n c, .int .u64 d] w (Made w (shuf n d zs)) := by
  have h0 : (0 : Int) ≤ (n : Int) := by omega
  have h1 : (n : Int) ≤ (c : Int) := by omega
  go_enter Try.func14, Try.ntmps14
  go_wp2_with fail
  refine (clone A n c zs _ hr hn (by have := hn.out; omega)).mono ?_
  rintro e w1 ⟨A1, c1, rfl, hown, hb1⟩
  obtain ⟨_, _, e1, hc1, hc1'⟩ := hown.form
  injection e1 with e1 e2 e3
  subst e1 e3
  clear e2
  have nn : zs.length ≤ 64 := by have := hn.out; omega
  unfold maxLen at hc1'
  go_wp2_with fail
  go_loopw [6, 7] (fun x i wr => ∃ (m : Nat) (x0 : Int) (l : List Int), i = .int .i64 ((m : Int) - 1) ∧ x = .int .u64 x0 ∧ m ≤ zs.length ∧ Hid (0 ≤ x0) ∧ Hid (l.length = zs.length) ∧ Hid (Own wr w.heap.size (.slice A1 zs.length c1) l) ∧ Hid (Below w.heap.size w wr) ∧ Hid (shuf m x0 l = shuf n d zs)) (fun _ i _ => (intOf i).toNat)
  case atStart => exact ⟨zs.length, d, zs, rfl, rfl, by omega, hd, Hid.mk_ rfl, Hid.mk_ hown, Hid.mk_ hb1, Hid.mk_ (by rw [← hn.out])⟩
  case round =>
    obtain ⟨m, x0, l, rfl, rfl, hmz, hx0, hlz, hown, hbl, hsh⟩ := hrel
    by_cases hlt : 2 ≤ m
    · obtain ⟨m, rfl⟩ : ∃ k, m = k + 2 := ⟨m - 2, by omega⟩
      go_upto_region 8 with fail
      obtain ⟨g, rfl, hg, hgz, hcell⟩ := Own.some_ hown.out (by have := hlz.out; omega)
      rw [show IntKind.u64.wrap (IntKind.u64.wrap (6364136223846793005 * x0) + 1442695040888963407) = stepX x0 from rfl, kOf_eq2 (stepX x0) m (stepX_nonneg x0) (by omega)]
      have hs2 : shuf (m + 2) x0 l = shuf (m + 1) (stepX x0) (swp l (m + 1) (kOf (stepX x0) (m + 1))) := rfl
      rw [hs2] at hsh
      have hkm := kOf_le (stepX x0) (m + 1)
      have hx1 := Hid.mk_ (stepX_nonneg x0)
      generalize kOf (stepX x0) (m + 1) = k at hsh hkm
      generalize stepX x0 = x1 at hsh hx1
      obtain ⟨y, hy⟩ : ∃ y, l[m + 1]? = some y := ⟨_, List.getElem?_eq_getElem (by have := hlz.out; omega)⟩
      obtain ⟨z, hz⟩ : ∃ z, l[k]? = some z := ⟨_, List.getElem?_eq_getElem (by have := hlz.out; omega)⟩
      obtain ⟨c1y, f1⟩ := hcell _ _ hy
      obtain ⟨c1z, f2⟩ := hcell _ _ hz
      have HY := Hid.mk_ hy
      have HZ := Hid.mk_ hz
      clear hy hz hcell hs2
      have em : ((m + 2 : Nat) : Int) - 1 = (m : Int) + 1 := by omega
      rw [em]
      have lt1 : (m : Int) + 1 < (zs.length : Int) := by omega
      have lt2 : (k : Int) < (zs.length : Int) := by omega
      have lt3 : (0 : Int) ≤ (m : Int) + 1 := by omega
      have lt4 : (0 : Int) ≤ (k : Int) := by omega
      obtain ⟨O1, B1⟩ := hown.out.set (m + 1) z
      obtain ⟨u, hu⟩ : ∃ u, (l.set (m + 1) z)[k]? = some u := ⟨_, List.getElem?_eq_getElem (by have := hlz.out; rw [List.length_set]; omega)⟩
      obtain ⟨g', e1, _, _, hcell⟩ := Own.some_ O1 (by have := hlz.out; rw [List.length_set]; omega)
      injection e1 with e1
      injection e1 with e1
      subst e1
      obtain ⟨c3, f3⟩ := hcell _ _ hu
      have O2 := Hid.mk_ (O1.set k y)
      clear hcell O1 hu
      have B1' := Hid.mk_ B1
      clear B1
      go_region
      have hsw : swp l (m + 1) k = (l.set (m + 1) z).set k y := by
        unfold swp
        rw [HY.out, HZ.out]
        rfl
      rw [hsw] at hsh
      have L2 := hlz.out
      clear hx0 HY HZ c1y f1 c1z f2 c3 f3
      go_wp2_with fail
      go_roundw
      case rel => exact ⟨m + 1, x1, _, by go_num, rfl, by omega, hx1, Hid.mk_ (by simpa using L2), Hid.mk_ O2.out.1.drew, Hid.mk_ (hbl.out.trans (B1'.out.trans O2.out.2.drew)), hsh⟩
      case measure => simp [intOf]; omega
    · go_wp2_with fail
      go_ret
      have e : shuf m x0 l = l := by
        have : m = 0 ∨ m = 1 := by omega
        rcases this with rfl | rfl <;> rfl
      have hsh := hsh.out
      rw [e] at hsh
      rw [← hsh]
      have := hlz.out
      refine ⟨A1, c1, by rw [this]; rfl, by rw [this]; exact hown.out, hbl.out⟩
set_option maxHeartbeats 2000000 in
theorem shuffle64 (A : Option Addr) (n0 c : Nat) (zs : List Int) (d : Int) (w : World) (hr : Hid (Row w A zs)) (hn : Hid (64 = zs.length)) (hm : 64 < n0) (hm' : n0 ≤ 9223372036854775807) (hc : n0 ≤ c) (hd : Hid (0 ≤ d)) :
    Calls Try.prog 14 #[.slice A n0 c, .int .u64 d] w (Made w (shuf 64 d zs)) := by
  have h0 : (64 : Int) < (n0 : Int) := by omega
  have h1 : (64 : Int) ≤ (c : Int) := by omega
  go_enter Try.func14, Try.ntmps14
  go_wp2_with fail
  refine (clone A 64 c zs _ hr hn (by have := hn.out; omega)).mono ?_
  rintro e w1 ⟨A1, c1, rfl, hown, hb1⟩
  obtain ⟨_, _, e1, hc1, hc1'⟩ := hown.form
  injection e1 with e1 e2 e3
  subst e1 e3
  clear e2
  have nn : zs.length ≤ 64 := by have := hn.out; omega
  unfold maxLen at hc1'
  go_wp2_with fail
  go_loopw [6, 7] (fun x i wr => ∃ (m : Nat) (x0 : Int) (l : List Int), i = .int .i64 ((m : Int) - 1) ∧ x = .int .u64 x0 ∧ m ≤ zs.length ∧ Hid (0 ≤ x0) ∧ Hid (l.length = zs.length) ∧ Hid (Own wr w.heap.size (.slice A1 zs.length c1) l) ∧ Hid (Below w.heap.size w wr) ∧ Hid (shuf m x0 l = shuf 64 d zs)) (fun _ i _ => (intOf i).toNat)
  case atStart => exact ⟨zs.length, d, zs, rfl, rfl, by omega, hd, Hid.mk_ rfl, Hid.mk_ hown, Hid.mk_ hb1, Hid.mk_ (by rw [← hn.out])⟩
  case round =>
    obtain ⟨m, x0, l, rfl, rfl, hmz, hx0, hlz, hown, hbl, hsh⟩ := hrel
    by_cases hlt : 2 ≤ m
    · obtain ⟨m, rfl⟩ : ∃ k, m = k + 2 := ⟨m - 2, by omega⟩
      go_upto_region 8 with fail
      obtain ⟨g, rfl, hg, hgz, hcell⟩ := Own.some_ hown.out (by have := hlz.out; omega)
      rw [show IntKind.u64.wrap (IntKind.u64.wrap (6364136223846793005 * x0) + 1442695040888963407) = stepX x0 from rfl, kOf_eq2 (stepX x0) m (stepX_nonneg x0) (by omega)]
      have hs2 : shuf (m + 2) x0 l = shuf (m + 1) (stepX x0) (swp l (m + 1) (kOf (stepX x0) (m + 1))) := rfl
      rw [hs2] at hsh
      have hkm := kOf_le (stepX x0) (m + 1)
      have hx1 := Hid.mk_ (stepX_nonneg x0)
      generalize kOf (stepX x0) (m + 1) = k at hsh hkm
      generalize stepX x0 = x1 at hsh hx1
      obtain ⟨y, hy⟩ : ∃ y, l[m + 1]? = some y := ⟨_, List.getElem?_eq_getElem (by have := hlz.out; omega)⟩
      obtain ⟨z, hz⟩ : ∃ z, l[k]? = some z := ⟨_, List.getElem?_eq_getElem (by have := hlz.out; omega)⟩
      obtain ⟨c1y, f1⟩ := hcell _ _ hy
      obtain ⟨c1z, f2⟩ := hcell _ _ hz
      have HY := Hid.mk_ hy
      have HZ := Hid.mk_ hz
      clear hy hz hcell hs2
      have em : ((m + 2 : Nat) : Int) - 1 = (m : Int) + 1 := by omega
      rw [em]
      have lt1 : (m : Int) + 1 < (zs.length : Int) := by omega
      have lt2 : (k : Int) < (zs.length : Int) := by omega
      have lt3 : (0 : Int) ≤ (m : Int) + 1 := by omega
      have lt4 : (0 : Int) ≤ (k : Int) := by omega
      obtain ⟨O1, B1⟩ := hown.out.set (m + 1) z
      obtain ⟨u, hu⟩ : ∃ u, (l.set (m + 1) z)[k]? = some u := ⟨_, List.getElem?_eq_getElem (by have := hlz.out; rw [List.length_set]; omega)⟩
      obtain ⟨g', e1, _, _, hcell⟩ := Own.some_ O1 (by have := hlz.out; rw [List.length_set]; omega)
      injection e1 with e1
      injection e1 with e1
      subst e1
      obtain ⟨c3, f3⟩ := hcell _ _ hu
      have O2 := Hid.mk_ (O1.set k y)
      clear hcell O1 hu
      have B1' := Hid.mk_ B1
      clear B1
      go_region
      have hsw : swp l (m + 1) k = (l.set (m + 1) z).set k y := by
        unfold swp
        rw [HY.out, HZ.out]
        rfl
      rw [hsw] at hsh
      have L2 := hlz.out
      clear hx0 HY HZ c1y f1 c1z f2 c3 f3
      go_wp2_with fail
      go_roundw
      case rel => exact ⟨m + 1, x1, _, by go_num, rfl, by omega, hx1, Hid.mk_ (by simpa using L2), Hid.mk_ O2.out.1.drew, Hid.mk_ (hbl.out.trans (B1'.out.trans O2.out.2.drew)), hsh⟩
      case measure => simp [intOf]; omega
    · go_wp2_with fail
      go_ret
      have e : shuf m x0 l = l := by
        have : m = 0 ∨ m = 1 := by omega
        rcases this with rfl | rfl <;> rfl
      have hsh := hsh.out
      rw [e] at hsh
      rw [← hsh]
      have := hlz.out
      refine ⟨A1, c1, by rw [this]; rfl, by rw [this]; exact hown.out, hbl.out⟩
theorem Row.take {w : World} {A : Option Addr} {zs : List Int} (h : Row w A zs) (k : Nat) : Row w A (zs.take k) := by
  intro i c hi
  rw [List.getElem?_take] at hi
  split at hi
  · exact h i c hi
  · cases hi
/-- Shuffle: of more than 64 the first 64. -/
theorem shuffle (A : Option Addr) (n c : Nat) (zs : List Int) (d : Int) (w : World) (hr : Hid (Row w A zs)) (hn : Hid (n = zs.length)) (hm : n ≤ 9223372036854775807) (hc : n ≤ c) (hd : Hid (0 ≤ d)) :
    Calls Try.prog 14 #[.slice A n c, .int .u64 d] w (Made w (shuf (zs.take 64).length d (zs.take 64))) := by
  have h := hn.out
  by_cases h64 : 64 < n
  · have := shuffle64 A n c (zs.take 64) d w (Hid.mk_ (hr.out.take 64)) (Hid.mk_ (by simp; omega)) h64 hm hc hd
    rwa [show (zs.take 64).length = 64 by simp; omega]
  · rw [List.take_of_length_le (by omega), ← h]
    exact shuffle0 A n c zs d w hr hn (by omega) hc hd
theorem shuffle8 (A : Option Addr) (n c : Nat) (zs : List Int) (d : Int) (w : World) (hr : Hid (Row w A zs)) (hn : Hid (n = zs.length)) (hm : n ≤ 64) (hc : n ≤ c) (hd : Hid (0 ≤ d)) :
    Calls Try.prog 14 #[.slice A n c, .int .u64 d] w (Made w (shuf zs.length d zs)) := by
  have := hn.out
  have h := shuffle A n c zs d w hr hn (by omega) hc hd
  rwa [List.take_of_length_le (by omega)] at h
end Go.Proofs.Ythobimdnjggkfaa.Prb
