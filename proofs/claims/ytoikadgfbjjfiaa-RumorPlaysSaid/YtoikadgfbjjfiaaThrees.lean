/- Rows of structs of three whole numbers, read. Conditions: the rows lie in memory. -/
import Derived.Test.YtoikadgfbjjfiaaReads
import Derived.Test.YtoikadgfbjjfiaaKit
import Derived.WalkKit
namespace Go.Proofs.Ytoikadgfbjjfiaa.Tri3
open Go.RowKit Kit
/-- Three numbers. -/
structure Cl where
  n : Int
  i : Int
  h : Int
/-- The claims lie from A on. -/
def ClAt (w : World) (A : Option Addr) (ls : List Cl) : Prop :=
  ∀ (i : Nat) (c : Cl), ls[i]? = some c → ∃ b off, A = some ⟨b, off, none⟩ ∧ b < w.heap.size ∧ w.cell? ⟨b, off + i * 3, none⟩ = some (.int .i64 c.n) ∧ w.cell? ⟨b, off + i * 3 + 1, none⟩ = some (.int .i64 c.i) ∧ w.cell? ⟨b, off + i * 3 + 2, none⟩ = some (.int .i64 c.h)
def shC : Sh := .pair (.int .i64) (.pair (.int .i64) (.pair (.int .i64) .unit))
theorem rd_three {w : World} {es : List Value} (h : RD w shC es) : ∃ x y z, es = [.int .i64 x, .int .i64 y, .int .i64 z] := by
  obtain ⟨_, _, rfl, _, g0, h0⟩ := rd_pair h
  obtain ⟨x, rfl, _⟩ := rd_int g0
  obtain ⟨_, _, rfl, _, g1, h1⟩ := rd_pair h0
  obtain ⟨y, rfl, _⟩ := rd_int g1
  obtain ⟨_, _, rfl, _, g2, h2⟩ := rd_pair h1
  obtain ⟨z, rfl, _⟩ := rd_int g2
  obtain rfl := rd_unit h2
  exact ⟨x, y, z, rfl⟩
theorem list_of (P : Nat → Cl → Prop) : ∀ n, (∀ i, i < n → ∃ c, P i c) → ∃ ls : List Cl, ls.length = n ∧ ∀ (i : Nat) (c : Cl), ls[i]? = some c → P i c
  | 0, _ => ⟨[], rfl, fun i c h => by simp at h⟩
  | n + 1, h => by
    obtain ⟨ls, hl, hp⟩ := list_of P n (fun i hi => h i (by omega))
    obtain ⟨c, hc⟩ := h n (by omega)
    refine ⟨ls ++ [c], by simp [hl], fun i d hd => ?_⟩
    by_cases hi : i < n
    · rw [List.getElem?_append_left (by omega)] at hd
      exact hp i d hd
    · rw [List.getElem?_append_right (by omega)] at hd
      have : i = n := by
        have := (List.getElem?_eq_some_iff.1 hd).1
        simp at this; omega
      subst this
      rw [hl] at hd
      simp at hd
      subst hd
      exact hc
theorem add_off (a : Addr) (k : Nat) (h : a.spot = none) : a.add k = ⟨a.block, a.off + k, none⟩ := by
  obtain ⟨b, o, s⟩ := a
  simp only at h
  subst h
  unfold Addr.add
  split
  · simp_all
  · rfl
theorem rd_claims {w : World} {A : Option Addr} {n c : Nat} (h : RD w (.slice shC) [.slice A n c]) : ∃ ls : List Cl, ls.length = n ∧ ClAt w A ls ∧ n ≤ c ∧ c ≤ maxLen := by
  rcases h with h | ⟨a, len, cap, h, hl, hm, hi⟩
  · simp only [List.cons.injEq, Value.slice.injEq, and_true] at h
    obtain ⟨rfl, rfl, rfl⟩ := h
    exact ⟨[], rfl, fun i c h => by simp at h, Nat.le_refl _, by simp [maxLen]⟩
  · simp only [List.cons.injEq, Value.slice.injEq, and_true] at h
    obtain ⟨rfl, rfl, rfl⟩ := h
    obtain ⟨ls, hls, hp⟩ := list_of (fun i c => ∃ b off, some a = some ⟨b, off, none⟩ ∧ b < w.heap.size ∧ w.cell? ⟨b, off + i * 3, none⟩ = some (.int .i64 c.n) ∧ w.cell? ⟨b, off + i * 3 + 1, none⟩ = some (.int .i64 c.i) ∧ w.cell? ⟨b, off + i * 3 + 2, none⟩ = some (.int .i64 c.h)) n (fun i hin => by
      obtain ⟨es, hel, hat, hr⟩ := hi i hin
      obtain ⟨x, y, z, rfl⟩ := rd_three hr
      have e3 : shC.size = 3 := rfl
      rw [e3] at hat
      have h0 := hat 0 (by omega)
      have h1 := hat 1 (by omega)
      have h2 := hat 2 (by omega)
      have hs : a.spot = none := by
        cases hsp : a.spot with
        | none => rfl
        | some v =>
          obtain ⟨es0, _, hat0, hr0⟩ := hi 0 (by omega)
          obtain ⟨x0, y0, z0, rfl⟩ := rd_three hr0
          have := hat0 0 (by rw [e3]; omega)
          rw [e3] at this
          unfold Addr.add at this
          simp [World.cell?, hsp] at this
          split at this <;> simp at this
      rw [add_off a _ hs] at h0 h1 h2
      refine ⟨⟨x, y, z⟩, a.block, a.off, ?_, ?_, ?_, ?_, ?_⟩
      · obtain ⟨b, o, s⟩ := a; simp only at hs; subst hs; rfl
      · exact World.block_lt_of_cell? (w := w) (a := ⟨a.block, a.off + (i * 3 + 0), none⟩) h0
      · rw [Nat.add_zero] at h0; exact h0
      · rw [Nat.add_assoc]; exact h1
      · rw [Nat.add_assoc]; exact h2)
    exact ⟨ls, hls, hp, hl, hm⟩
theorem ClAt.keep {w w' : World} {A : Option Addr} {ls : List Cl} (h : ClAt w A ls) (hb : Below w.heap.size w w') : ClAt w' A ls := by
  intro i c hi
  obtain ⟨b, off, h1, h2, h3, h4, h5⟩ := h i c hi
  refine ⟨b, off, h1, Nat.lt_of_lt_of_le h2 hb.size, ?_, ?_, ?_⟩
  · rw [hb.cell (p := ⟨b, _, none⟩) h2]; exact h3
  · rw [hb.cell (p := ⟨b, _, none⟩) h2]; exact h4
  · rw [hb.cell (p := ⟨b, _, none⟩) h2]; exact h5
theorem take_snoc {l : List Cl} {k : Nat} {c : Cl} (h : l[k]? = some c) : l.take (k + 1) = l.take k ++ [c] := by
  rw [List.take_add_one, h]; rfl
end Go.Proofs.Ytoikadgfbjjfiaa.Tri3
