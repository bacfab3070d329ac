/- Chapter 4: two rows alike; some of a row; a row in another order holds the same. Conditions: the rows lie in memory. -/
import Derived.Test.YthobimdnjggkfaaPrE
import Derived.Test.YthobimdnjggkfaaPrR
namespace Go.Proofs.Ythobimdnjggkfaa.Prb
open Go.RowKit Kit
set_option linter.unusedVariables false
theorem swp_count (l : List Int) (i k : Nat) (hi : i < l.length) (hk : k < l.length) (x : Int) : (swp l i k).count x = l.count x := by
  unfold swp
  rw [List.getElem?_eq_getElem hi, List.getElem?_eq_getElem hk]
  simp only [Option.getD_some]
  rw [List.count_set (by simpa using hk), List.count_set hi, List.getElem_set]
  by_cases h : i = k
  · subst h
    simp only [if_true]
    have : (if l[i] == x then 1 else 0) ≤ l.count x := by
      split
      · rename_i h1
        have : x ∈ l := by rw [← eq_of_beq h1]; exact List.getElem_mem hi
        exact List.count_pos_iff.2 this
      · omega
    omega
  · rw [if_neg h]
    have h1 : (if l[i] == x then 1 else 0) ≤ l.count x := by
      split
      · rename_i h1
        have : x ∈ l := by rw [← eq_of_beq h1]; exact List.getElem_mem hi
        exact List.count_pos_iff.2 this
      · omega
    omega
theorem shuf_count : ∀ (m : Nat) (d : Int) (l : List Int), m ≤ l.length → ∀ x, (shuf m d l).count x = l.count x
  | m + 2, d, l, h, x => by
    have := kOf_le (stepX d) (m + 1)
    rw [shuf, shuf_count (m + 1) _ _ (by rw [swp_len]; omega), swp_count _ _ _ (by omega) (by omega)]
  | 1, _, _, _, _ => rfl
  | 0, _, _, _, _ => rfl
set_option maxHeartbeats 2000000 in
theorem same (A A' : Option Addr) (n c n' c' : Nat) (xs ys : List Int) (w : World) (hr : Hid (Row w A xs)) (hn : Hid (n = xs.length)) (hm : n ≤ 9223372036854775807) (hr' : Hid (Row w A' ys)) (hn' : Hid (n' = ys.length)) (hm' : n' ≤ 9223372036854775807) (q : Bool) (hq : Hid (q = decide (xs = ys))) :
    Calls Try.prog 15 #[.slice A n c, .slice A' n' c'] w fun e w' => e = .returned (.bool q) ∧ Below w.heap.size w w' := by
  go_enter Try.func15, Try.ntmps15
  by_cases hne : n = n'
  · subst hne
    go_wp2_with fail
    go_loopw [5, 13] (fun _ i wr => ∃ k : Nat, k ≤ n ∧ i = .int .i64 (k : Int) ∧ Hid (xs.take k = ys.take k) ∧ Hid (Below w.heap.size w wr)) (fun _ i _ => n - (intOf i).toNat)
    case atStart => exact ⟨0, by omega, rfl, Hid.mk_ rfl, Hid.mk_ (Below.refl _ _)⟩
    case round =>
      obtain ⟨k, hk, rfl, ht, hb⟩ := hrel
      by_cases hlt : k < n
      · obtain ⟨x, hx⟩ : ∃ x, xs[k]? = some x := ⟨_, List.getElem?_eq_getElem (by have := hn.out; omega)⟩
        obtain ⟨y, hy⟩ : ∃ y, ys[k]? = some y := ⟨_, List.getElem?_eq_getElem (by have := hn'.out; omega)⟩
        obtain ⟨b1, o1, rfl, c1⟩ := (hr.out.keep fun b _ _ hlt => hb.out.block b hlt) k x hx
        obtain ⟨b2, o2, rfl, c2⟩ := (hr'.out.keep fun b _ _ hlt => hb.out.block b hlt) k y hy
        have HX := Hid.mk_ hx
        have HY := Hid.mk_ hy
        clear hx hy
        have l1 : (k : Int) < (n : Int) := by omega
        have l0 : (0 : Int) ≤ (k : Int) := by omega
        by_cases he : x = y
        · subst he
          go_wp2_with fail
          go_region
          go_wp2_with fail
          go_roundw
          case rel =>
            refine ⟨k + 1, by omega, by go_num, Hid.mk_ ?_, Hid.mk_ hb.out.drew⟩
            rw [List.take_add_one, List.take_add_one, HX.out, HY.out, ht.out]
          case measure => simp [intOf]; omega
        · go_wp2_with fail
          go_region
          go_wp2_with fail
          go_ret
          refine ⟨?_, hb.out.drew⟩
          rw [hq.out]
          simp
          intro e
          have := HX.out
          rw [e, HY.out] at this
          exact he (by simpa using this.symm)
      · obtain rfl : k = n := by omega
        go_wp2_with fail
        go_ret
        refine ⟨?_, hb.out⟩
        have h := ht.out
        rw [List.take_of_length_le (by have := hn.out; omega), List.take_of_length_le (by have := hn'.out; omega)] at h
        rw [hq.out, h]
        simp
  · go_wp2_with fail
    go_ret
    refine ⟨?_, by go_grown⟩
    rw [hq.out]
    have : xs ≠ ys := fun e => hne (by rw [hn.out, hn'.out, e])
    simp [this]
/-- How many Some takes. -/
def many (k : Int) (n : Nat) : Nat := (max 0 (min k (n : Int))).toNat
theorem many_le (k : Int) (n : Nat) : many k n ≤ n := by unfold many; omega
theorem many_eq (k : Int) (n : Nat) : max 0 (min k (n : Int)) = (many k n : Int) := by unfold many; omega
/-- Part of a row of one's own is handed back. -/
def Part (w : World) (zs : List Int) (r : Nat) (e : Ending) (w' : World) : Prop := ∃ A c, e = .returned (.slice A r c) ∧ Own w' w.heap.size (.slice A zs.length c) zs ∧ r ≤ zs.length ∧ Below w.heap.size w w'
theorem some0 (A : Option Addr) (n c : Nat) (zs : List Int) (k d : Int) (w : World) (hr : Hid (Row w A zs)) (hn : Hid (n = zs.length)) (hm : n ≤ 9223372036854775807) (hc : n ≤ c) (hd : Hid (0 ≤ d))
    (s : List Int) (hs : Hid (shuf (zs.take 64).length d (zs.take 64) = s)) (r : Nat) (hrr : Hid (many k s.length = r)) :
    Calls Try.prog 16 #[.slice A n c, .int .i64 k, .int .u64 d] w (Part w s r) := by
  go_enter Try.func16, Try.ntmps16
  go_wp2_with fail
  refine (shuffle A n c zs d w hr hn hm hc hd).mono ?_
  rintro e w1 ⟨A1, c1, rfl, hown, hb⟩
  rw [hs.out] at hown ⊢
  obtain ⟨m, em⟩ : ∃ m, m = s.length := ⟨_, rfl⟩
  rw [← em] at hown ⊢
  have EM := Hid.mk_ em
  obtain ⟨hc1, hm1⟩ := hown.bounds
  have me := many_eq k m
  have ml := many_le k m
  rw [em, hrr.out, ← em] at me ml
  clear em
  have r0 : (0 : Int) ≤ (r : Int) := by omega
  have r1 : (r : Int) ≤ (c1 : Int) := by omega
  have mm : min k (m : Int) ≤ (m : Int) := by omega
  go_wp2_with fail
  go_ret
  exact ⟨A1, c1, rfl, by rw [← EM.out]; exact hown, by rw [← EM.out]; exact ml, hb⟩
theorem count_step (l : List Int) (t : Nat) (y x : Int) (h : l[t]? = some y) : (l.take (t + 1)).count x = (l.take t).count x + if y = x then 1 else 0 := by
  rw [List.take_add_one, h, List.count_append]
  simp [List.count_cons]
theorem count_take_le (l : List Int) (t : Nat) (x : Int) : (l.take t).count x ≤ t :=
  Nat.le_trans List.count_le_length (by simp; omega)
end Go.Proofs.Ythobimdnjggkfaa.Prb
