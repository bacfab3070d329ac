/- Chapter 2: what is believed of one node hangs on what is said of it alone. Plain. -/
import Derived.Test.YthobimdnjggkfaaBelP
namespace Go.Proofs.Ythobimdnjggkfaa.Bel
open PBeliefJoins
theorem upd_other {p : Nat → Int} {n i : Int} {b : Bool} {m : Nat} (h : n ≠ (m : Int)) : upd p n i b m = p m := by unfold upd; rw [if_neg (fun e => h e.2)]
theorem hear_other {s : St} {c : Cl} {m : Nat} (h : c.n ≠ (m : Int)) : (hear1 s c).p m = s.p m ∧ (hear1 s c).q m = s.q m := ⟨upd_other h, upd_other h⟩
theorem hear_same {s t : St} {c : Cl} {m : Nat} (h : c.n = (m : Int)) (hp : s.p m = t.p m) (hq : s.q m = t.q m) : (hear1 s c).p m = (hear1 t c).p m ∧ (hear1 s c).q m = (hear1 t c).q m := by
  have hb' : hb s c = hb t c := by
    unfold hb hearB
    rw [h, Int.toNat_natCast, hp, hq]
  unfold hear1 upd
  simp only [hb', h]
  constructor
  · split
    · rfl
    · exact hp
  · split
    · rfl
    · exact hq
/-- Whose node is m? -/
def isOf (m : Nat) (c : Cl) : Bool := c.n == (m : Int)
theorem own_same (m : Nat) : ∀ (l : List Cl) (s t : St), s.p m = t.p m → s.q m = t.q m → (hears s l).p m = (hears t (l.filter (isOf m))).p m ∧ (hears s l).q m = (hears t (l.filter (isOf m))).q m
  | [], _, _, hp, hq => ⟨hp, hq⟩
  | c :: l, s, t, hp, hq => by
    by_cases h : c.n = (m : Int)
    · have hf : isOf m c = true := by simpa [isOf] using h
      rw [List.filter_cons_of_pos hf]
      have := hear_same h hp hq
      exact own_same m l (hear1 s c) (hear1 t c) this.1 this.2
    · have hf : ¬ isOf m c = true := by simpa [isOf] using h
      rw [List.filter_cons_of_neg hf]
      have := hear_other (s := s) h
      exact own_same m l (hear1 s c) t (this.1.trans hp) (this.2.trans hq)
theorem own_alone (m : Nat) : ∀ (l : List Cl) (t : St), (∀ k, k ≠ m → t.q k = 0) → ∀ k, k ≠ m → (hears t (l.filter (isOf m))).q k = 0
  | [], t, h, k, hk => h k hk
  | c :: l, t, h, k, hk => by
    by_cases hc : isOf m c = true
    · rw [List.filter_cons_of_pos hc]
      refine own_alone m l (hear1 t c) (fun j hj => ?_) k hk
      have hn : c.n = (m : Int) := by simpa [isOf] using hc
      rw [(hear_other (by rw [hn]; omega)).2]
      exact h j hj
    · rw [List.filter_cons_of_neg hc]
      exact own_alone m l t h k hk
theorem cnt_one (s : Nat → Bool) (m : Nat) (h : ∀ k, k ≠ m → s k = false) : ∀ k, cntC s k ≤ 1 ∧ (k ≤ m → cntC s k = 0)
  | 0 => ⟨by simp [cntC], fun _ => rfl⟩
  | k + 1 => by
    have ih := cnt_one s m h k
    by_cases hk : k = m
    · subst hk
      have := ih.2 (Nat.le_refl _)
      unfold cntC
      exact ⟨by split <;> omega, fun h => by omega⟩
    · unfold cntC
      rw [h k hk]
      simp only [Bool.false_eq_true, if_false]
      exact ⟨ih.1, fun hk' => ih.2 (by omega)⟩
/-- The cells of a row of claims. -/
def cellsC : List Cl → List Value
  | [] => []
  | c :: l => .int .i64 c.n :: .int .i64 c.i :: .int .i64 c.h :: cellsC l
theorem cells_snoc : ∀ (l : List Cl) (c : Cl), cellsC (l ++ [c]) = cellsC l ++ [.int .i64 c.n, .int .i64 c.i, .int .i64 c.h]
  | [], _ => rfl
  | d :: l, c => by simp only [List.cons_append, cellsC, cells_snoc l c]
theorem cells_at : ∀ (l : List Cl) (i : Nat) (c : Cl), l[i]? = some c → (cellsC l)[i * 3]? = some (.int .i64 c.n) ∧ (cellsC l)[i * 3 + 1]? = some (.int .i64 c.i) ∧ (cellsC l)[i * 3 + 2]? = some (.int .i64 c.h)
  | [], i, c, h => by simp at h
  | d :: l, 0, c, h => by
    obtain rfl : d = c := by simpa using h
    exact ⟨rfl, rfl, rfl⟩
  | d :: l, i + 1, c, h => by
    have := cells_at l i c (by simpa using h)
    rw [show (i + 1) * 3 = i * 3 + 1 + 1 + 1 from by omega]
    simpa [cellsC] using this
theorem cells_length : ∀ l : List Cl, (cellsC l).length = l.length * 3
  | [] => rfl
  | c :: l => by simp only [cellsC, List.length_cons, cells_length l]; omega
theorem cells_one : ∀ (l : List Cl), ∀ u ∈ cellsC l, u.oneCell' = true
  | [], u, h => by simp [cellsC] at h
  | c :: l, u, h => by
    simp only [cellsC, List.mem_cons] at h
    rcases h with rfl | rfl | rfl | h
    · rfl
    · rfl
    · rfl
    · exact cells_one l u h
/-- A row of one's own that holds claims, read as claims. -/
theorem ClAt.of_own {w : World} {base : Nat} {A : Option Addr} {n c : Nat} {l : List Cl} (h : w.ownsRow base 45 3 (.slice A n c) n (cellsC l)) : n = l.length ∧ ClAt w A l := by
  have hn : n = l.length := by have := h.1; rw [cells_length] at this; omega
  refine ⟨hn, fun i cl hi => ?_⟩
  rcases h.2 with ⟨hv, h0⟩ | ⟨g, cap, cur, hv, hb, hh, hnc, hm, hcur, ht⟩
  · have := (List.getElem?_eq_some_iff.1 hi).1
    omega
  · injection hv with h1 h2 h3
    subst h1
    have hlt : i < l.length := (List.getElem?_eq_some_iff.1 hi).1
    obtain ⟨e0, e1, e2⟩ := cells_at l i cl hi
    have hg : g < w.heap.size := by
      rcases Nat.lt_or_ge g w.heap.size with h1 | h1
      · exact h1
      · rw [Array.getElem?_eq_none h1] at hh; cases hh
    have at_ : ∀ j u, (cellsC l)[j]? = some u → w.cell? ⟨g, j, none⟩ = some u := by
      intro j u hu
      rw [cell_of_row w g j cur 45 (0, 0) hh]
      rw [← ht] at hu
      have hj : j < n * 3 := by
        have := (List.getElem?_eq_some_iff.1 hu).1
        rw [List.length_take] at this; omega
      rw [List.getElem?_take_of_lt hj] at hu
      simpa using hu
    refine ⟨g, 0, rfl, hg, ?_, ?_, ?_⟩
    · rw [Nat.zero_add]; exact at_ _ _ e0
    · rw [Nat.zero_add]; exact at_ _ _ e1
    · rw [Nat.zero_add]; exact at_ _ _ e2
end Go.Proofs.Ythobimdnjggkfaa.Bel
