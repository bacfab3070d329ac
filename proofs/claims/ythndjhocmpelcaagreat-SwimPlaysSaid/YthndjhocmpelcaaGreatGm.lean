/- Orders of peers: some of them. Conditions: as each theorem says. -/
import Derived.Test.YthndjhocmpelcaaGreatGg
import Derived.Test.YthndjhocmpelcaaGreatPrE
namespace Go.Proofs.YthndjhocmpelcaaGreat.Prb
open Go.RowKit Kit
theorem list_of (P : Nat → Int → Prop) : ∀ n, (∀ i, i < n → ∃ c, P i c) → ∃ ls : List Int, ls.length = n ∧ ∀ (i : Nat) (c : Int), ls[i]? = some c → P i c
  | 0, _ => ⟨[], rfl, fun i c h => by simp at h⟩
  | n + 1, h => by
    obtain ⟨ls, hl, hp⟩ := list_of P n (fun i hi => h i (by omega))
    obtain ⟨c, hc⟩ := h n (by omega)
    refine ⟨ls ++ [c], by simp [hl], fun i d hd => ?_⟩
    by_cases hi : i < n
    · rw [List.getElem?_append_left (by omega)] at hd
      exact hp i d hd
    · rw [List.getElem?_append_right (by omega)] at hd
      have : i = n := by
        have := (List.getElem?_eq_some_iff.1 hd).1
        simp at this; omega
      subst this
      rw [hl] at hd
      simp at hd
      subst hd
      exact hc
def shI : Sh := .int .i64
theorem rd_slice {w : World} {e : Sh} {cs : List Value} (h : RD w (.slice e) cs) : ∃ A n c, cs = [.slice A n c] := by
  rcases h with rfl | ⟨a, len, cap, rfl, _⟩
  · exact ⟨_, _, _, rfl⟩
  · exact ⟨_, _, _, rfl⟩
theorem add_off (a : Addr) (k : Nat) (h : a.spot = none) : a.add k = ⟨a.block, a.off + k, none⟩ := by
  obtain ⟨b, o, s⟩ := a
  simp only at h
  subst h
  rw [Addr.add_lit]
theorem rd_ints {w : World} {A : Option Addr} {n c : Nat} (h : RD w (.slice (.int .i64)) [.slice A n c]) : ∃ zs : List Int, zs.length = n ∧ Row w A zs ∧ n ≤ c ∧ c ≤ 9223372036854775807 ∧ (A = none → c = 0) := by
  rcases h with h | ⟨a, len, cap, h, hl, hm, hi⟩
  · simp only [List.cons.injEq, Value.slice.injEq, and_true] at h
    obtain ⟨rfl, rfl, rfl⟩ := h
    exact ⟨[], rfl, Row.nil _ _, Nat.le_refl _, by omega, fun _ => rfl⟩
  · simp only [List.cons.injEq, Value.slice.injEq, and_true] at h
    obtain ⟨rfl, rfl, rfl⟩ := h
    obtain ⟨ls, hls, hp⟩ := list_of (fun i c => ∃ b off, some a = some ⟨b, off, none⟩ ∧ w.cell? ⟨b, off + i, none⟩ = some (.int .i64 c)) n (fun i hin => by
      obtain ⟨es, hel, hat, hr⟩ := hi i hin
      obtain ⟨x, rfl, _⟩ := rd_int hr
      have e1 : (Sh.int IntKind.i64).size = 1 := rfl
      rw [e1] at hat
      have h0 := hat 0 (by omega)
      have hs : a.spot = none := by
        cases hsp : a.spot with
        | none => rfl
        | some v =>
          obtain ⟨es0, _, hat0, hr0⟩ := hi 0 (by omega)
          obtain ⟨x0, rfl, _⟩ := rd_int hr0
          have := hat0 0 (by rw [e1]; omega)
          rw [e1] at this
          unfold Addr.add at this
          simp [World.cell?, hsp] at this
          split at this <;> simp at this
      rw [add_off a _ hs] at h0
      refine ⟨x, a.block, a.off, ?_, ?_⟩
      · obtain ⟨b, o, s⟩ := a; simp only at hs; subst hs; rfl
      · rw [Nat.mul_one, Nat.add_zero] at h0; exact h0)
    unfold maxLen at hm
    exact ⟨ls, hls, hp, hl, by omega, fun h => by cases h⟩
end Go.Proofs.YthndjhocmpelcaaGreat.Prb
namespace Go.Proofs.YthndjhocmpelcaaGreat.Prb
open Go.RowKit Kit
set_option linter.unusedVariables false
theorem swp_count (l : List Int) (i k : Nat) (hi : i < l.length) (hk : k < l.length) (x : Int) : (swp l i k).count x = l.count x := by
  unfold swp
  rw [List.getElem?_eq_getElem hi, List.getElem?_eq_getElem hk]
  simp only [Option.getD_some]
  rw [List.count_set (by simpa using hk), List.count_set hi, List.getElem_set]
  by_cases h : i = k
  · subst h
    simp only [if_true]
    have : (if l[i] == x then 1 else 0) ≤ l.count x := by
      split
      · rename_i h1
        have : x ∈ l := by rw [← eq_of_beq h1]; exact List.getElem_mem hi
        exact List.count_pos_iff.2 this
      · omega
    omega
  · rw [if_neg h]
    have h1 : (if l[i] == x then 1 else 0) ≤ l.count x := by
      split
      · rename_i h1
        have : x ∈ l := by rw [← eq_of_beq h1]; exact List.getElem_mem hi
        exact List.count_pos_iff.2 this
      · omega
    omega
theorem shuf_count : ∀ (m : Nat) (d : Int) (l : List Int), m ≤ l.length → ∀ x, (shuf m d l).count x = l.count x
  | m + 2, d, l, h, x => by
    have := kOf_le (stepX d) (m + 1)
    rw [shuf, shuf_count (m + 1) _ _ (by rw [swp_len]; omega), swp_count _ _ _ (by omega) (by omega)]
  | 1, _, _, _, _ => rfl
  | 0, _, _, _, _ => rfl
/-- How many Some takes. -/
def many (k : Int) (n : Nat) : Nat := (max 0 (min k (n : Int))).toNat
theorem many_le (k : Int) (n : Nat) : many k n ≤ n := by unfold many; omega
theorem many_eq (k : Int) (n : Nat) : max 0 (min k (n : Int)) = (many k n : Int) := by unfold many; omega
/-- Part of a row of one's own is handed back. -/
def Part (w : World) (zs : List Int) (r : Nat) (e : Ending) (w' : World) : Prop := ∃ A c, e = .returned (.slice A r c) ∧ Own w' w.heap.size (.slice A zs.length c) zs ∧ r ≤ zs.length ∧ Below w.heap.size w w'
theorem some0 (A : Option Addr) (n c : Nat) (zs : List Int) (k d : Int) (w : World) (hr : Hid (Row w A zs)) (hn : Hid (n = zs.length)) (hm : n ≤ 9223372036854775807) (hc : n ≤ c) (hd : Hid (0 ≤ d))
    (s : List Int) (hs : Hid (shuf (zs.take 64).length d (zs.take 64) = s)) (r : Nat) (hrr : Hid (many k s.length = r)) :
    Calls Tryz.prog 48 #[.slice A n c, .int .i64 k, .int .u64 d] w (Part w s r) := by
  go_enter Tryz.func48, Tryz.ntmps48
  go_wp2_with fail
  refine (shuffle A n c zs d w hr hn hm hc hd).mono ?_
  rintro e w1 ⟨A1, c1, rfl, hown, hb⟩
  rw [hs.out] at hown ⊢
  obtain ⟨m, em⟩ : ∃ m, m = s.length := ⟨_, rfl⟩
  rw [← em] at hown ⊢
  have EM := Hid.mk_ em
  obtain ⟨hc1, hm1⟩ := hown.bounds
  have me := many_eq k m
  have ml := many_le k m
  rw [em, hrr.out, ← em] at me ml
  clear em
  have r0 : (0 : Int) ≤ (r : Int) := by omega
  have r1 : (r : Int) ≤ (c1 : Int) := by omega
  have mm : min k (m : Int) ≤ (m : Int) := by omega
  go_wp2_with fail
  go_ret
  exact ⟨A1, c1, rfl, by rw [← EM.out]; exact hown, by rw [← EM.out]; exact ml, hb⟩
theorem count_step (l : List Int) (t : Nat) (y x : Int) (h : l[t]? = some y) : (l.take (t + 1)).count x = (l.take t).count x + if y = x then 1 else 0 := by
  rw [List.take_add_one, h, List.count_append]
  simp [List.count_cons]
theorem count_take_le (l : List Int) (t : Nat) (x : Int) : (l.take t).count x ≤ t :=
  Nat.le_trans List.count_le_length (by simp; omega)
end Go.Proofs.YthndjhocmpelcaaGreat.Prb
