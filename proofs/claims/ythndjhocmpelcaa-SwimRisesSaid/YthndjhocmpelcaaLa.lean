/- Chapter 6, plain: what a detector's words leave as it was. No condition. -/
import Derived.Test.YthndjhocmpelcaaGl
namespace Go.Proofs.Ythndjhocmpelcaa.Swi
open Go.RowKit Kit Hth Tri3
set_option linter.unusedVariables false
/-- Its own name, whether it has left, its ticks, whom it asked. -/
structure Kp (d d' : Dt) : Prop where
  self : d'.self = d.self
  left : d'.left = d.left
  now : d'.now = d.now
  seq : d'.seq = d.seq
  asked : d'.asked = d.asked
theorem Kp.refl (d : Dt) : Kp d d := ⟨rfl, rfl, rfl, rfl, rfl⟩
theorem Kp.trans {a b c : Dt} (h : Kp a b) (k : Kp b c) : Kp a c := ⟨k.self.trans h.self, k.left.trans h.left, k.now.trans h.now, k.seq.trans h.seq, k.asked.trans h.asked⟩
theorem Kp.ref (d : Dt) (i h : Int) : Kp d (dRef d i h) := by
  unfold dRef
  split
  · split
    · exact ⟨rfl, rfl, rfl, rfl, rfl⟩
    · exact ⟨rfl, rfl, rfl, rfl, rfl⟩
  · exact Kp.refl d
theorem Kp.hears (d : Dt) (c : Cl) : Kp d (dHears d c) := by
  unfold dHears
  split
  · exact Kp.ref d _ _
  · split
    · exact ⟨rfl, rfl, rfl, rfl, rfl⟩
    · exact Kp.refl d
theorem Kp.meetL : ∀ (l : List Cl) (d : Dt) (n : Nat), Kp d (meetL d n l).1
  | [], d, n => Kp.refl d
  | a :: l, d, n => by
    rw [Swi.meetL]
    split
    · exact (Kp.hears d a).trans (Kp.meetL l _ _)
    · exact Kp.meetL l _ _
theorem Kp.meets (d : Dt) (f : Int) (l : List Cl) : Kp d (dMeets d f l) := by
  unfold dMeets
  simp only
  split
  · exact Kp.meetL l d 0
  · exact (Kp.meetL l d 0).trans (Kp.hears _ _)
end Go.Proofs.Ythndjhocmpelcaa.Swi
