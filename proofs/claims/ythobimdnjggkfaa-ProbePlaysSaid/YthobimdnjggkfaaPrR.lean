/- Chapter 4: a row of whole numbers that comes in. No condition. -/
import Derived.Test.YthobimdnjggkfaaPrA
namespace Go.Proofs.Ythobimdnjggkfaa.Prb
open Go.RowKit Kit
theorem list_of (P : Nat → Int → Prop) : ∀ n, (∀ i, i < n → ∃ c, P i c) → ∃ ls : List Int, ls.length = n ∧ ∀ (i : Nat) (c : Int), ls[i]? = some c → P i c
  | 0, _ => ⟨[], rfl, fun i c h => by simp at h⟩
  | n + 1, h => by
    obtain ⟨ls, hl, hp⟩ := list_of P n (fun i hi => h i (by omega))
    obtain ⟨c, hc⟩ := h n (by omega)
    refine ⟨ls ++ [c], by simp [hl], fun i d hd => ?_⟩
    by_cases hi : i < n
    · rw [List.getElem?_append_left (by omega)] at hd
      exact hp i d hd
    · rw [List.getElem?_append_right (by omega)] at hd
      have : i = n := by
        have := (List.getElem?_eq_some_iff.1 hd).1
        simp at this; omega
      subst this
      rw [hl] at hd
      simp at hd
      subst hd
      exact hc
def shI : Sh := .int .i64
theorem rd_slice {w : World} {e : Sh} {cs : List Value} (h : RD w (.slice e) cs) : ∃ A n c, cs = [.slice A n c] := by
  rcases h with rfl | ⟨a, len, cap, rfl, _⟩
  · exact ⟨_, _, _, rfl⟩
  · exact ⟨_, _, _, rfl⟩
theorem add_off (a : Addr) (k : Nat) (h : a.spot = none) : a.add k = ⟨a.block, a.off + k, none⟩ := by
  obtain ⟨b, o, s⟩ := a
  simp only at h
  subst h
  rw [Addr.add_lit]
theorem rd_ints {w : World} {A : Option Addr} {n c : Nat} (h : RD w (.slice (.int .i64)) [.slice A n c]) : ∃ zs : List Int, zs.length = n ∧ Row w A zs ∧ n ≤ c ∧ c ≤ 9223372036854775807 ∧ (A = none → c = 0) := by
  rcases h with h | ⟨a, len, cap, h, hl, hm, hi⟩
  · simp only [List.cons.injEq, Value.slice.injEq, and_true] at h
    obtain ⟨rfl, rfl, rfl⟩ := h
    exact ⟨[], rfl, Row.nil _ _, Nat.le_refl _, by omega, fun _ => rfl⟩
  · simp only [List.cons.injEq, Value.slice.injEq, and_true] at h
    obtain ⟨rfl, rfl, rfl⟩ := h
    obtain ⟨ls, hls, hp⟩ := list_of (fun i c => ∃ b off, some a = some ⟨b, off, none⟩ ∧ w.cell? ⟨b, off + i, none⟩ = some (.int .i64 c)) n (fun i hin => by
      obtain ⟨es, hel, hat, hr⟩ := hi i hin
      obtain ⟨x, rfl, _⟩ := rd_int hr
      have e1 : (Sh.int IntKind.i64).size = 1 := rfl
      rw [e1] at hat
      have h0 := hat 0 (by omega)
      have hs : a.spot = none := by
        cases hsp : a.spot with
        | none => rfl
        | some v =>
          obtain ⟨es0, _, hat0, hr0⟩ := hi 0 (by omega)
          obtain ⟨x0, rfl, _⟩ := rd_int hr0
          have := hat0 0 (by rw [e1]; omega)
          rw [e1] at this
          unfold Addr.add at this
          simp [World.cell?, hsp] at this
          split at this <;> simp at this
      rw [add_off a _ hs] at h0
      refine ⟨x, a.block, a.off, ?_, ?_⟩
      · obtain ⟨b, o, s⟩ := a; simp only at hs; subst hs; rfl
      · rw [Nat.mul_one, Nat.add_zero] at h0; exact h0)
    unfold maxLen at hm
    exact ⟨ls, hls, hp, hl, by omega, fun h => by cases h⟩
end Go.Proofs.Ythobimdnjggkfaa.Prb
