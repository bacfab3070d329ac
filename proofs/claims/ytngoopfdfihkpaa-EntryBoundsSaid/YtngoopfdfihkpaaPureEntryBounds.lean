/- EntryBounds: what may not be is not flipped; nor is one whose epoch is the last one. No condition beside the given row's own. -/
import Derived.Test.YtngoopfdfihkpaaPEntryBoundsx3
import Derived.Test.YtngoopfdfihkpaaEntB
namespace Go.Proofs.Ytngoopfdfihkpaa.Pure
open Go.RowKit Go.Proofs.Ytngoopfdfihkpaa.PEntryBounds Go.Proofs.YtngoopfdfihkpaaW.PrintWords Go.Proofs.YtngoopfdfihkpaaW.PrintLast

theorem j2_s (a0 a2 x : Int) (b : Bool) (m n : Int) (h : (x, m, n) = if b = true then ((1 : Int), (0 : Int), (0 : Int)) else if a0 = 1000000 then (6, 0, 0) else (0, wrap64 (a0 + 1), a2)) :
    starlinglaw9_EntryBounds.j2 18 a0 a2 x b m n = some true := by
  simp only [starlinglaw9_EntryBounds.j2]
  rw [awake_s 17 (by omega)]
  simp only [Option.bind_some]
  cases b
  · simp only [Bool.false_eq_true, if_false] at h ⊢
    by_cases h1 : a0 = 1000000
    · rw [if_pos h1] at h ⊢
      simp only [Prod.mk.injEq] at h
      obtain ⟨rfl, rfl, rfl⟩ := h
      rfl
    · rw [if_neg h1] at h ⊢
      simp only [Prod.mk.injEq] at h
      obtain ⟨rfl, rfl, rfl⟩ := h
      simp
  · simp only [if_true, Prod.mk.injEq] at h ⊢
    obtain ⟨rfl, rfl, rfl⟩ := h
    rfl

theorem EntryBounds : starlinglaw9_EntryBounds.Pure := by
  intro a0 a1 a2 _ _ _
  refine ⟨20, ?_⟩
  unfold starlinglaw9_EntryBounds.f
  rw [flip_s 20 (by omega)]
  simp only [Option.bind_some]
  generalize hr : (if mayE a0 a1 = true ∧ isNode a2 = true then (if a0 = 1000000 then ((0 : Int), (0 : Int), (6 : Int)) else (wrap64 (a0 + 1), a2, 0)) else (0, 0, 1)) = r
  have key : ∀ b, b = mayE a0 a1 → starlinglaw9_EntryBounds.j0 20 a0 a2 r.2.2 b a0 a1 r.1 r.2.1 = some true := by
    intro b hb
    simp only [starlinglaw9_EntryBounds.j0]
    rw [may_s]
    simp only [Option.bind_some]
    rw [if_neg (by rw [hb]; simp)]
    have key1 : ∀ c, c = isNode a2 → starlinglaw9_EntryBounds.j1 19 a0 a2 r.2.2 b c r.1 r.2.1 = some true := by
      intro c hc
      simp only [starlinglaw9_EntryBounds.j1]
      subst hb; subst hc
      by_cases hm : mayE a0 a1 = true
      · rw [if_pos hm]
        refine j2_s _ _ _ _ _ _ ?_
        subst hr
        cases hn : isNode a2 <;> simp [hm]
        split <;> rfl
      · rw [if_neg hm]
        refine j2_s _ _ _ _ _ _ ?_
        subst hr
        simp [hm]
    by_cases h2 : a2 ≥ 0
    · rw [if_pos h2]; refine key1 _ ?_
      unfold isNode; congr 1; apply propext; omega
    · rw [if_neg h2]; refine key1 _ ?_
      symm; rw [isNode_f]; omega
  by_cases h0 : a0 = 0
  · rw [if_pos h0]
    by_cases h1 : a1 = 0
    · rw [if_pos h1]; refine key _ ?_; symm; rw [mayE_t]; omega
    · rw [if_neg h1, if_neg (by omega)]; refine key _ ?_; symm; rw [mayE_f]; omega
  · rw [if_neg h0]
    by_cases h1 : a0 ≥ 1
    · rw [if_pos h1]
      by_cases h2 : a0 ≤ 1000000
      · rw [if_pos h2]
        by_cases h3 : a1 ≥ 0
        · rw [if_pos h3]; refine key _ ?_; unfold mayE; congr 1; apply propext; omega
        · rw [if_neg h3]; refine key _ ?_; symm; rw [mayE_f]; omega
      · rw [if_neg h2]; refine key _ ?_; symm; rw [mayE_f]; omega
    · rw [if_neg h1]; refine key _ ?_; symm; rw [mayE_f]; omega

end Go.Proofs.Ytngoopfdfihkpaa.Pure
