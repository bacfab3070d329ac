/- Chapter 5: two clocks side by side; what is due in steps. Conditions: their rows lie in blocks of their own. -/
import Derived.Test.YtoikadgfbjjfiaaHpO
namespace Go.Proofs.Ytoikadgfbjjfiaa.Wat
open Go.RowKit Kit Ints
set_option linter.unusedVariables false
/-- Two clocks, side by side. -/
structure Two (w : World) (ga : Nat) (A : Option Addr) (L : List Mom) (gb : Nat) (B : Option Addr) (M : List Mom) : Prop where
  a : Clk w ga A L
  b : Clk w gb B M
  d : ∀ k, Its ga A k → ¬ Its gb B k
theorem Two.below {w w' : World} {ga gb : Nat} {A B : Option Addr} {L M : List Mom} (h : Two w ga A L gb B M) (hb : Below w.heap.size w w') : Two w' ga A L gb B M := ⟨h.a.below hb, h.b.below hb, h.d⟩
theorem Two.left {w w' : World} {ga gb : Nat} {A B : Option Addr} {L M N : List Mom} (h : Two w ga A L gb B M) (t : Turn w w' ga A N) : ∃ A', Two w' ga A' N gb B M ∧ Wr w w' (Its ga A) := by
  obtain ⟨A', k, f, r⟩ := t
  refine ⟨A', ⟨k, h.b.wr r (fun k hk hn => h.d k hn hk), fun k hk hn => ?_⟩, r⟩
  rcases f.its ga k hk with h1 | h1
  · exact h.d k h1 hn
  · have := h.b.its k hn; omega
theorem Two.right {w w' : World} {ga gb : Nat} {A B : Option Addr} {L M N : List Mom} (h : Two w ga A L gb B M) (t : Turn w w' gb B N) : ∃ B', Two w' ga A L gb B' N ∧ Wr w w' (Its gb B) := by
  obtain ⟨B', k, f, r⟩ := t
  refine ⟨B', ⟨h.a.wr r h.d, k, fun k hk hn => ?_⟩, r⟩
  rcases f.its gb k hn with h1 | h1
  · exact h.d k hk h1
  · have := h.a.its k hk; omega
theorem Two.leftD {w w' : World} {ga gb : Nat} {A B : Option Addr} {L M N : List Mom} (h : Two w ga A L gb B M) (k : Clk w' ga A N) (r : Wr w w' (Its ga A)) : Two w' ga A N gb B M :=
  ⟨k, h.b.wr r (fun k hk hn => h.d k hn hk), h.d⟩
theorem Two.rightD {w w' : World} {ga gb : Nat} {A B : Option Addr} {L M N : List Mom} (h : Two w ga A L gb B M) (k : Clk w' gb B N) (r : Wr w w' (Its gb B)) : Two w' ga A L gb B N :=
  ⟨h.a.wr r h.d, k, h.d⟩
/-- What is due of what is left is due. -/
theorem due_rest {now now' : Int} {L : List Mom} (hL : L.Pairwise (fun a b => ltM a b = true)) (h : now ≤ now') : dueL now L ++ dueL now' (restL now L) = dueL now' L ∧ restL now' (restL now L) = restL now' L := by
  induction L with
  | nil => exact ⟨rfl, rfl⟩
  | cons m l ih =>
    have hl := (List.pairwise_cons.1 hL).2
    by_cases e : m.at_ ≤ now
    · obtain ⟨h1, h2⟩ := due_cons_yes (L := l) e
      obtain ⟨h3, h4⟩ := due_cons_yes (L := l) (now := now') (m := m) (by omega)
      obtain ⟨i1, i2⟩ := ih hl
      rw [h1, h2, h3, h4, List.cons_append, i1, i2]
      exact ⟨rfl, rfl⟩
    · obtain ⟨h1, h2⟩ := due_cons_no hL (now := now) (by omega)
      rw [h1, h2]
      exact ⟨rfl, rfl⟩
theorem due_len (now : Int) (L : List Mom) : (dueL now L).length + (restL now L).length = L.length := by
  unfold dueL restL
  induction L with
  | nil => rfl
  | cons m l ih =>
    rw [List.length_map] at ih ⊢
    by_cases e : m.at_ ≤ now
    · rw [List.filter_cons_of_pos (by simpa using e), List.filter_cons_of_neg (by simp; omega)]
      simp only [List.length_cons]; omega
    · rw [List.filter_cons_of_neg (by simpa using e), List.filter_cons_of_pos (by simp; omega)]
      simp only [List.length_cons]; omega
theorem due_mem {now : Int} {L : List Mom} {x : Int} : x ∈ dueL now L ↔ ∃ m ∈ L, m.at_ ≤ now ∧ m.id = x := by
  unfold dueL
  rw [List.mem_map]
  constructor
  · rintro ⟨m, hm, rfl⟩
    obtain ⟨h1, h2⟩ := List.mem_filter.1 hm
    exact ⟨m, h1, of_decide_eq_true h2, rfl⟩
  · rintro ⟨m, h1, h2, rfl⟩
    exact ⟨m, List.mem_filter.2 ⟨h1, decide_eq_true h2⟩, rfl⟩
theorem rest_sub {now : Int} {L : List Mom} {m : Mom} (h : m ∈ restL now L) : m ∈ L := (List.mem_filter.1 h).1
theorem St.rest {L : List Mom} (h : St L) (now : Int) : St (restL now L) := h.filter _
/-- What is due later is there, not ahead of its moment. -/
theorem due_at {now now' : Int} {L : List Mom} (h : St L) {x : Int} (hx : x ∈ dueL now' (restL now L)) : ∃ a, atL x L = some a ∧ a ≤ now' := by
  obtain ⟨m, hm, h1, rfl⟩ := due_mem.1 hx
  exact ⟨m.at_, h.find (rest_sub hm), h1⟩
theorem St.setLq {L : List Mom} (h : St L) (id at_ : Int) : St (setLq id at_ L) := by
  unfold Wat.setLq
  split
  · rename_i e; exact h.setL e
  · exact h
end Go.Proofs.Ytoikadgfbjjfiaa.Wat
