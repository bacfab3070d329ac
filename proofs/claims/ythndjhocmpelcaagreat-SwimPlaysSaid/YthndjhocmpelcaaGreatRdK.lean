/- Chapter 6, the document's own detector: its order is turned; the plain laws that its tick wants. Conditions: its parts lie in blocks apart. -/
import Derived.Test.YthndjhocmpelcaaGreatRdJ
namespace Go.Proofs.YthndjhocmpelcaaGreat.Rd
open Go.RowKit Kit Tri3 Swi
open Go.Proofs.YthndjhocmpelcaaGreat.Hth (cmpI cmpC nodeB mayC)
set_option linter.unusedVariables false
theorem DetR.turnO {w w' : World} {S : Nat → Prop} {g gv gq go gc : Nat} {d : Dt} {A B C : Option Addr} {n c : Nat} {zs : List Int} (h : DetR w S g d gv gq go gc A B n c C)
    (t : ∃ A' n' c', Hid (Prb.Odr w' go d.self A' n' c' zs) ∧ (∀ b off, A' = some ⟨b, off, none⟩ → B = some ⟨b, off, none⟩ ∨ w.heap.size ≤ b) ∧ Prb.Wr w w' (fun k => k = go)) (hz : zs.length ≤ 100) :
    ∃ B' n' c' S', DetR w' S' g { d with zs := zs } gv gq go gc A B' n' c' C ∧ (∀ k, S' k → S k ∨ w.heap.size ≤ k) ∧ Rum.Wr w w' S := by
  obtain ⟨B', n', c', k', f, hw0⟩ := t
  have hw := wrP hw0
  obtain ⟨col, c0, c1, c2, c3, c4⟩ := h.sep
  have hold : ∀ k, S k → k < w.heap.size := h.blk
  have cg : col go = 3 := c3 go (.inl rfl)
  obtain ⟨R, hR, hp⟩ := h.qu
  have f' : ∀ k, Prb.Its go B' k → Prb.Its go B k ∨ w.heap.size ≤ k := fun k hk => by
    rcases hk with h1 | ⟨off, h1⟩
    · exact .inl (.inl h1)
    · rcases f k off h1 with h2 | h2
      · exact .inl (.inr ⟨off, h2⟩)
      · exact .inr h2
  refine ⟨B', n', c', fun k => S k ∨ Prb.Its go B' k, ⟨⟨h.ok.self, h.ok.inc, h.ok.now, h.ok.seq, h.ok.asked⟩, ?_, ?_, ⟨R, hR.wr hw (fun k hk hk2 => by have := c2 k hk; rw [hk2] at this; omega), hp⟩, h.st, h.lt, k'.out, hz, ?_, h.cst, ?_, .inl h.sg, .inl h.sv, fun k hk => .inl (h.sq k hk), fun k hk => .inr hk, fun k hk => .inl (h.sc k hk), ?_⟩, ?_, ?_⟩
  · exact h.dcs.wr hw (fun hk => by rw [hk] at c0; omega)
  · exact (hw.block gv h.vw.lt (fun hk => by rw [hk] at c1; omega)).trans h.vw
  · exact h.ck.wr (wrW' hw) (fun k hk hk2 => by have := c4 k hk; rw [hk2] at this; omega)
  · rintro k (hk | hk)
    · exact Nat.lt_of_lt_of_le (hold k hk) hw.size
    · rcases hk with h1 | ⟨off, h1⟩
      · rw [h1]; exact k'.out.lt
      · exact Prb_blk k'.out h1
  · refine ⟨fun k => if w.heap.size ≤ k then 3 else col k, ?_, ?_, ?_, ?_, ?_⟩
    · have := hold g h.sg; simp only; rw [if_neg (by omega)]; exact c0
    · have := hold gv h.sv; simp only; rw [if_neg (by omega)]; exact c1
    · intro k hk; have := hold k (h.sq k hk); simp only; rw [if_neg (by omega)]; exact c2 k hk
    · intro k hk
      rcases f' k hk with h1 | h1
      · have := hold k (h.so k h1); simp only; rw [if_neg (by omega)]; exact c3 k h1
      · simp only; rw [if_pos h1]
    · intro k hk; have := hold k (h.sc k hk); simp only; rw [if_neg (by omega)]; exact c4 k hk
  · rintro k (hk | hk)
    · exact .inl hk
    · rcases f' k hk with h1 | h1
      · exact .inl (h.so k h1)
      · exact .inr h1
  · exact hw.mono (fun k hk => by rw [hk]; exact h.so go (.inl rfl))
theorem nxt_len (me : Int) (ps zs : List Int) (dr : Int) (h : zs.length ≤ 100) : (Prb.nxt me ps zs dr).2.length ≤ 100 := by
  unfold Prb.nxt
  split
  · exact h
  · show (List.tail _).length ≤ 100
    have hb := Prb.br_len me ps 8
    rw [List.length_tail]
    have : (Prb.pick (Prb.br me ps 8) zs dr).length ≤ 100 := by
      unfold Prb.pick
      split
      · rw [Prb.shuf_len]; omega
      · exact Nat.le_trans (Prb.kept_len _ _) h
    omega
/-- Those that were not asked. -/
def oth (asked : Int) (l : List Int) : List Int := l.filter fun x => decide (¬ x = asked)
theorem oth_len (asked : Int) (l : List Int) : (oth asked l).length ≤ l.length := List.length_filter_le _ _
theorem oth_yes {asked : Int} {l : List Int} {j : Nat} {x : Int} (hx : l[j]? = some x) (h : ¬ x = asked) : oth asked (l.take (j + 1)) = oth asked (l.take j) ++ [x] := by
  unfold oth
  rw [List.take_add_one, hx, List.filter_append]
  congr 1
  simp [h]
theorem oth_no {asked : Int} {l : List Int} {j : Nat} {x : Int} (hx : l[j]? = some x) (h : x = asked) : oth asked (l.take (j + 1)) = oth asked (l.take j) := by
  unfold oth
  rw [List.take_add_one, hx, List.filter_append]
  simp [h]
theorem oth_br (me asked : Int) (ps : List Int) : ∀ k, oth asked (Prb.br me ps k) = hl me asked ps k
  | 0 => rfl
  | k + 1 => by
    have ih := oth_br me asked ps k
    by_cases h1 : ¬ (k : Int) = me ∧ (k : Int) ∈ ps
    · rw [Prb.br_yes h1.1 h1.2]
      by_cases h2 : (k : Int) = asked
      · rw [hl_no (fun h => h.2.1 h2), ← ih]
        unfold oth
        rw [List.filter_append]
        simp [h2]
      · rw [hl_yes ⟨h1.1, h2, h1.2⟩, ← ih]
        unfold oth
        rw [List.filter_append]
        simp [h2]
    · rw [Prb.br_no h1, hl_no (fun h => h1 ⟨h.1, h.2.2⟩), ih]
theorem cOf_low (d : Dt) (x : Int) (h : x < 0) : (cOf d x).h = 0 := by
  unfold cOf Bel.on
  simp only
  split
  · omega
  · rfl
theorem d100_low (d : Dt) (id : Int) (h : id < 100) : d100 d id = d := by
  unfold d100
  rw [cOf_low d (id - 100) (by omega), if_neg (by decide)]
end Go.Proofs.YthndjhocmpelcaaGreat.Rd
