/- Chapter 2: append of a whole row of claims, be it nil or not, onto a row of one's own: run, and a step of a region. -/
import Derived.Test.YthobimdnjggkfaaBelJ
import Derived.Deep.RegionHeld3
namespace Go.Proofs.Ythobimdnjggkfaa.Bel
open Go.RowKit Kit PBeliefJoins
set_option linter.unusedVariables false
theorem ClAt.cells {w : World} {ad : Addr} {ls : List Cl} (h : ClAt w (some ad) ls) : ∀ j u, (cellsC ls)[j]? = some u → w.cell? (ad.add j) = some u := by
  intro j u hu
  have hj : j < ls.length * 3 := by
    have := (List.getElem?_eq_some_iff.1 hu).1
    rwa [cells_length] at this
  have hi : j / 3 < ls.length := by omega
  obtain ⟨b, off, ha, hb, h0, h1, h2⟩ := h (j / 3) ls[j / 3] (List.getElem?_eq_getElem hi)
  obtain ⟨e0, e1, e2⟩ := cells_at ls (j / 3) ls[j / 3] (List.getElem?_eq_getElem hi)
  injection ha with ha
  subst ha
  have hr : j % 3 = 0 ∨ j % 3 = 1 ∨ j % 3 = 2 := by omega
  rw [Addr.add_lit]
  rcases hr with hr | hr | hr
  · rw [show j = j / 3 * 3 by omega] at hu ⊢
    rw [e0] at hu; injection hu with hu; subst hu; exact h0
  · rw [show j = j / 3 * 3 + 1 by omega] at hu ⊢
    rw [e1] at hu; injection hu with hu; subst hu; exact h1
  · rw [show j = j / 3 * 3 + 2 by omega] at hu ⊢
    rw [e2] at hu; injection hu with hu; subst hu; exact h2
theorem ClAt.empty {w : World} {ls : List Cl} (h : ClAt w none ls) : ls = [] := by
  cases ls with
  | nil => rfl
  | cons c l =>
    obtain ⟨b, off, ha, _⟩ := h 0 c rfl
    cases ha
theorem run_none (w : World) (ty : TypeId) (i0 : TypeInfo) (hi : Try.prog.info? 45 = some i0) (base n c : Nat) (v : Value) (xs : List Value) (hown : w.ownsRow base 45 3 v n xs) :
    (Builtin.append_ #[43, 43] ty #[v, .slice none 0 c]).run Try.prog w = .ok v w := by
  rcases hown.2 with ⟨rfl, rfl⟩ | ⟨g, cap, cur, rfl, hbg, hg, hnc, hcm, hcs, htake⟩
  · simp [Builtin.append_, run_underlying Try.underlying43, sizeOf, typeInfo, hi, Builtin.lenOf, Builtin.firstCells]
  · simp [Builtin.append_, run_underlying Try.underlying43, sizeOf, typeInfo, hi, Builtin.lenOf, Builtin.firstCells, loadCells, hnc, storeCells]
/-- v is a row of one's own that holds the claims xs. -/
def OwnC (w : World) (base : Nat) (v : Value) (xs : List Cl) : Prop := w.ownsRow base 45 3 v xs.length (cellsC xs)
theorem run_app (w : World) (ty : TypeId) (base : Nat) (v : Value) (xs : List Cl) (hown : OwnC w base v xs) (A : Option Addr) (ls : List Cl) (m c : Nat) (hm : m = ls.length) (hat : ClAt w A ls) (hn : xs.length + ls.length ≤ 1000) (hbase : base ≤ w.heap.size) :
    ∃ v' w', (Builtin.append_ #[43, 43] ty #[v, .slice A m c]).run Try.prog w = .ok v' w' ∧ OwnC w' base v' (xs ++ ls) ∧ Below base w w' := by
  obtain ⟨i0, hi0, hz0, hz1, hz2⟩ := info_parts info45
  subst hm
  cases A with
  | none =>
    obtain rfl := hat.empty
    refine ⟨v, w, run_none w ty i0 hi0 base _ c v _ hown, ?_, Below.refl _ _⟩
    rw [List.append_nil]; exact hown
  | some ad =>
    obtain ⟨v', w', hr, h1, h2, _⟩ := run_append_own (P := Try.prog) w base 43 ty 45 i0 _ 3 24 Try.underlying43 hi0 hz0 hz1 hz2 rfl (by decide) v xs.length (cellsC xs) hown ad ls.length c (cellsC ls) (cells_length ls) hat.cells (cells_one ls) (by unfold maxLen; omega) (by omega) hbase
    refine ⟨v', w', hr, ?_, (Below.refl _ _).grown h2 hbase (fun j hj => (World.ownsRow.lt hown j hj).1)⟩
    unfold OwnC
    rw [cells_append, List.length_append]
    exact h1
theorem wp_app (w : World) {o : Oper} {a : Act} {K : Act → World → Prop} {Q : Exit → Act → World → Prop} (s x : Operand)
    (ho : o.op = .call { callee := .builtin .append, args := #[s, x], argTypes := #[43, 43] })
    (base : Nat) (v : Value) (xs : List Cl) (hs : a.eval s = v) (hown : OwnC w base v xs) (A : Option Addr) (ls : List Cl) (m c : Nat) (hx : a.eval x = .slice A m c) (hm : m = ls.length) (hat : ClAt w A ls) (hn : xs.length + ls.length ≤ 1000) (hbase : base ≤ w.heap.size)
    (h : ∀ v' w', OwnC w' base v' (xs ++ ls) → Below base w w' → K (a.put o.dst v') w') : o.wp Try.prog a w K Q := by
  obtain ⟨v', w', hr, h2, h3⟩ := run_app w o.type base v xs hown A ls m c hm hat hn hbase
  unfold Oper.wp execOp
  simp only [ho, resolve, invoke, builtin, Sem.run_bind, Sem.run_pure, Result.andThen_ok, List.map_toArray, List.map_cons, List.map_nil, hs, hx, hr]
  exact h v' w' h2 h3
theorem wpList_app (w : World) {ops : Array Oper} {rest : List Oper} {o : Oper} {a : Act} {Q : Exit → Act → World → Prop} (hgd : o.guard = none) (s x : Operand)
    (ho : o.op = .call { callee := .builtin .append, args := #[s, x], argTypes := #[43, 43] })
    (base : Nat) (v : Value) (xs : List Cl) (hs : a.eval s = v) (hown : OwnC w base v xs) (A : Option Addr) (ls : List Cl) (m c : Nat) (hx : a.eval x = .slice A m c) (hm : m = ls.length) (hat : ClAt w A ls) (hn : xs.length + ls.length ≤ 1000) (hbase : base ≤ w.heap.size)
    (h : ∀ v' w', OwnC w' base v' (xs ++ ls) → Below base w w' → wpList Try.prog ops Q rest (a.put o.dst v') w') : wpList Try.prog ops Q (o :: rest) a w :=
  wpList_plain hgd fun _ hK => wp_app w s x ho base v xs hs hown A ls m c hx hm hat hn hbase fun v' w' h2 h3 => hK _ _ (h v' w' h2 h3)
theorem step_app (w : World) {ops : Array Oper} {o : Oper} {a : Act} {K : Act → World → Prop} {Q : Exit → Act → World → Prop} {E : Prop} (hgd : o.guard = none) (s x : Operand)
    (ho : o.op = .call { callee := .builtin .append, args := #[s, x], argTypes := #[43, 43] })
    (base : Nat) (v : Value) (xs : List Cl) (hs : a.eval s = v) (hown : OwnC w base v xs) (A : Option Addr) (ls : List Cl) (m c : Nat) (hx : a.eval x = .slice A m c) (hm : m = ls.length) (hat : ClAt w A ls) (hn : xs.length + ls.length ≤ 1000) (hbase : base ≤ w.heap.size)
    (h : ∀ v' w', OwnC w' base v' (xs ++ ls) → Below base w w' → K (a.put o.dst v') w') :
    if Region.wanted o (yielded ops a.tmps) = true then Oper.wp Try.prog o a w K Q else E := by
  have hw : Region.wanted o (yielded ops a.tmps) = true := by simp [Region.wanted, hgd]
  rw [if_pos hw]
  exact wp_app w s x ho base v xs hs hown A ls m c hx hm hat hn hbase h
theorem ClAt.own {w : World} {base : Nat} {A : Option Addr} {n c : Nat} {l : List Cl} (h : OwnC w base (.slice A n c) l) : n = l.length ∧ ClAt w A l := by
  obtain ⟨A', c', e⟩ := own_form h
  injection e with e1 e2 e3
  subst e1 e2 e3
  exact ⟨rfl, (ClAt.of_own h).2⟩
/-- Part of a row. -/
theorem ClAt.drop {w : World} {b off : Nat} {ls : List Cl} (h : ClAt w (some ⟨b, off, none⟩) ls) (k : Nat) : ClAt w (some ⟨b, off + k * 3, none⟩) (ls.drop k) := by
  intro i c hi
  rw [List.getElem?_drop] at hi
  obtain ⟨b', off', e, h1, h2, h3, h4⟩ := h (k + i) c hi
  injection e with e
  injection e with e1 e2
  subst e1 e2
  refine ⟨b, off + k * 3, rfl, h1, ?_, ?_, ?_⟩
  · rw [show off + k * 3 + i * 3 = off + (k + i) * 3 by omega]; exact h2
  · rw [show off + k * 3 + i * 3 + 1 = off + (k + i) * 3 + 1 by omega]; exact h3
  · rw [show off + k * 3 + i * 3 + 2 = off + (k + i) * 3 + 2 by omega]; exact h4
theorem ClAt.take {w : World} {A : Option Addr} {ls : List Cl} (h : ClAt w A ls) (k : Nat) : ClAt w A (ls.take k) := by
  intro i c hi
  rw [List.getElem?_take] at hi
  split at hi
  · exact h i c hi
  · cases hi
theorem own_nil (w : World) (base : Nat) (hb : base ≤ w.heap.size) (g : Nat) (hg : base ≤ g) (h : w.heap[g]? = some (.cells #[] 45 (0, 0))) : OwnC w base (.slice (some ⟨g, 0, none⟩) 0 0) [] :=
  ⟨rfl, .inr ⟨g, 0, #[], rfl, hg, h, Nat.le_refl _, by unfold maxLen; omega, rfl, rfl⟩⟩
theorem OwnC.form {w : World} {base : Nat} {v : Value} {xs : List Cl} (h : OwnC w base v xs) : ∃ A c, v = .slice A xs.length c := own_form h
theorem heard1 (A : Option Addr) (ls : List Cl) (n c : Nat) (w : World) (hn : n = ls.length) (hl : ClAt w A ls) (hm : ls.length ≤ maxLen) :
    Calls Try.prog 23 #[.slice A n c] w (HeardAll w (hears s0 (ls.take 100))) := by
  subst hn
  exact heard0 A ls c w hl hm
theorem OwnC.drew {w : World} {base : Nat} {v : Value} {xs : List Cl} (h : OwnC w base v xs) : OwnC w.drew base v xs := h
attribute [irreducible] OwnC
end Go.Proofs.Ythobimdnjggkfaa.Bel
