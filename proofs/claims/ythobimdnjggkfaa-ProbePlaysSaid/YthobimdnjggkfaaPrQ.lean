/- Chapter 4, plain: what Next hands back; different ones. -/
import Derived.Test.YthobimdnjggkfaaPrP
namespace Go.Proofs.Ythobimdnjggkfaa.Prb
open Go.RowKit Kit
set_option linter.unusedVariables false
theorem mem_br {me : Int} {zs : List Int} {x : Int} : ∀ {k : Nat}, x ∈ br me zs k ↔ ∃ i : Nat, i < k ∧ x = (i : Int) ∧ ¬ x = me ∧ x ∈ zs
  | 0 => by simp [br]
  | k + 1 => by
    have ih := @mem_br me zs x k
    by_cases h : ¬ (k : Int) = me ∧ (k : Int) ∈ zs
    · rw [br_yes h.1 h.2, List.mem_append, ih]
      constructor
      · rintro (⟨i, h1, h2⟩ | h1)
        · exact ⟨i, by omega, h2⟩
        · obtain rfl : x = (k : Int) := by simpa using h1
          exact ⟨k, by omega, rfl, h⟩
      · rintro ⟨i, h1, h2, h3⟩
        by_cases e : i = k
        · subst e; exact .inr (by simp [h2])
        · exact .inl ⟨i, by omega, h2, h3⟩
    · rw [br_no h, ih]
      constructor
      · rintro ⟨i, h1, h2⟩
        exact ⟨i, by omega, h2⟩
      · rintro ⟨i, h1, rfl, h3⟩
        by_cases e : i = k
        · subst e; exact absurd h3 h
        · exact ⟨i, by omega, rfl, h3⟩
theorem br_count (me : Int) (zs : List Int) (x : Int) : ∀ k, (br me zs k).count x ≤ 1
  | 0 => by simp [br]
  | k + 1 => by
    have ih := br_count me zs x k
    unfold br
    split
    · rw [List.count_append]
      by_cases h : (k : Int) = x
      · have : (br me zs k).count x = 0 := List.count_eq_zero.2 fun hm => by
          obtain ⟨i, h1, h2, _⟩ := mem_br.1 hm
          omega
        rw [this]
        simp [List.count_cons]
        split <;> omega
      · simp [h]
        exact ih
    · exact ih
theorem nxt_nil (me : Int) (ps zs : List Int) (d : Int) (h : br me ps 8 = []) : nxt me ps zs d = (-1, zs) := by unfold nxt; rw [if_pos h]
theorem pick_ne (l zs : List Int) (d : Int) (h : l ≠ []) : pick l zs d ≠ [] := by
  unfold pick
  split
  · intro e
    have := shuf_len l.length d l
    rw [e] at this
    exact h (List.eq_nil_of_length_eq_zero this.symm)
  · assumption
theorem nxt_some (me : Int) (ps zs : List Int) (d : Int) (h : br me ps 8 ≠ []) : ∃ y ys, pick (br me ps 8) zs d = y :: ys ∧ nxt me ps zs d = (y, ys) := by
  cases hp : pick (br me ps 8) zs d with
  | nil => exact absurd hp (pick_ne _ _ _ h)
  | cons y ys => exact ⟨y, ys, rfl, by unfold nxt; rw [if_neg h, hp]; rfl⟩
theorem pick_len (l zs : List Int) (d : Int) : (pick l zs d).length ≤ max l.length zs.length := by
  unfold pick
  split
  · rw [shuf_len]; omega
  · have := kept_len l zs; omega
theorem nxt_len (me : Int) (ps zs : List Int) (d : Int) : (nxt me ps zs d).2.length ≤ max 8 zs.length := by
  unfold nxt
  have h1 := br_len me ps 8
  have h2 := pick_len (br me ps 8) zs d
  split
  · exact Nat.le_max_right _ _
  · simp only [List.length_tail]; omega
theorem wrap_nonneg (x : Int) : 0 ≤ IntKind.u64.wrap x := by rw [IntKind.wrap_u64]; omega
theorem Odr.blk {w : World} {g : Nat} {me : Int} {A : Option Addr} {n c : Nat} {zs : List Int} (h : Odr w g me A n c zs) {b off : Nat} (e : A = some ⟨b, off, none⟩) : b < w.heap.size := by
  rcases h.row with ⟨e1, _⟩ | ⟨b', off', e1, _, h2, _⟩
  · rw [e1] at e; cases e
  · rw [e1] at e; injection e with e; injection e with e; omega
theorem kept_step (ls r : List Int) (j : Nat) (x : Int) (hx : r[j]? = some x) (h1 : ls.count x ≤ 1) : kept ls (r.take (j + 1)) = kept ls (r.take j) ++ List.replicate (ls.count x) x := by
  unfold kept
  rw [List.take_add_one, hx, List.filter_append]
  congr 1
  by_cases h : x ∈ ls
  · have := List.count_pos_iff.2 h
    rw [show ls.count x = 1 by omega]
    simp [h]
  · rw [List.count_eq_zero.2 h]
    simp [h]
theorem Row.tail {w : World} {b off : Nat} {y : Int} {ys : List Int} (h : Row w (some ⟨b, off, none⟩) (y :: ys)) : Row w (some ⟨b, off + 1, none⟩) ys := by
  intro j x hx
  obtain ⟨b', off', e, hc⟩ := h (j + 1) x hx
  injection e with e
  injection e with e1 e2
  subst e1 e2
  exact ⟨b, off + 1, rfl, by rw [show off + 1 + j = off + (j + 1) by omega]; exact hc⟩
theorem Own.lettered {w : World} {base : Nat} {v : Value} {zs : List Int} (h : Own w base v zs) : ∃ A n c, v = .slice A n c ∧ Hid (n = zs.length) := by
  obtain ⟨A, c, e, _⟩ := h.form
  exact ⟨A, _, c, e, rfl⟩
theorem keepCell {w w' : World} {a : Addr} {v : Value} (hb : Below w.heap.size w w') (h : w.cell? a = some v) : w'.cell? a = some v :=
  (hb.cell (World.block_lt_of_cell? w _ h)).trans h
theorem Odr.drew {w : World} {g : Nat} {me : Int} {A : Option Addr} {n c : Nat} {zs : List Int} (h : Odr w g me A n c zs) : Odr w.drew g me A n c zs := h.below (Below.refl _ _).drew
theorem Row.drew {w : World} {A : Option Addr} {zs : List Int} (h : Row w A zs) : Row w.drew A zs := h.below (Below.refl _ _).drew
end Go.Proofs.Ythobimdnjggkfaa.Prb
