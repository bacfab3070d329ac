/- Small plain lemmas for the walks of this seat: what lay before a call lies there behind it; a region that draws its order, walked once, its calls making new memory alone. No condition. -/
import Derived.Handy
import Derived.Deep.QuietTactic
import Derived.BigQuiet
import Derived.Laws.StructEq
namespace Go.Proofs.Ytngoopfdfihkpaa.Kit
open Go.RowKit

theorem bcell {W w1 : World} (hb : Below W.heap.size W w1) : (∀ b o, b < W.heap.size → w1.cell? ⟨b, o, none⟩ = W.cell? ⟨b, o, none⟩) ∧ (∀ b o, b < W.heap.size → w1.frozen? ⟨b, o, none⟩ = W.frozen? ⟨b, o, none⟩) :=
  ⟨fun b o h => hb.cell (p := ⟨b, o, none⟩) h, fun b o h => hb.frozen (p := ⟨b, o, none⟩) h⟩

/-- A world in which all that lay in W lies as it did. -/
structure After (W : World) where
  w : World
  h : Below W.heap.size W w

theorem After.cell {W : World} (n : After W) (b o : Nat) (hb : b < W.heap.size) : n.w.cell? ⟨b, o, none⟩ = W.cell? ⟨b, o, none⟩ := n.h.cell (p := ⟨b, o, none⟩) hb
theorem After.size {W : World} (n : After W) : W.heap.size ≤ n.w.heap.size := n.h.size

theorem After.calls {P : Program} {f : FuncId} {args : Array Value} {W : World} {n : After W} {v : Value}
    (h : Calls P f args n.w fun e w' => e = .returned v ∧ Below n.w.heap.size n.w w') : Calls P f args n.w fun e w'' => e = .returned v ∧ ∃ m : After W, w'' = m.w :=
  h.mono fun _ w' ⟨he, hb⟩ => ⟨he, ⟨w', n.h.trans (hb.mono n.h.size)⟩, rfl⟩

theorem wp_region_after {P : Program} {id : Nat} {Q : Exit → Act → World → Prop} {a : Act} {w : World} {l : List Oper} (hm : P.follows .mixedOrders = true) (hB : Region.lexB .any l.toArray = true)
    (h : Nonempty (After w) → wpQuiet P l.toArray (fun w' => ∃ n : After w, w' = n.w) (fun a' => ∀ w', (∃ n : After w, w' = n.w) → Q .normal a' w') l a) : (Code.region id l.toArray true).wp P Q a w :=
  wp_region_quiet (C := fun w' => ∃ n : After w, w' = n.w) hm hB ⟨⟨_, (Below.refl _ _).drew⟩, rfl⟩ (by simpa using h ⟨⟨w, Below.refl _ _⟩⟩)

/-- The same over an earlier world S. -/
theorem wp_region_since {P : Program} {id : Nat} {Q : Exit → Act → World → Prop} {a : Act} {w : World} {l : List Oper} (S : World) (hS : Below S.heap.size S w) (hm : P.follows .mixedOrders = true) (hB : Region.lexB .any l.toArray = true)
    (h : Nonempty (After S) → wpQuiet P l.toArray (fun w' => ∃ n : After S, w' = n.w) (fun a' => ∀ w', (∃ n : After S, w' = n.w) → Q .normal a' w') l a) : (Code.region id l.toArray true).wp P Q a w :=
  wp_region_quiet (C := fun w' => ∃ n : After S, w' = n.w) hm hB ⟨⟨_, hS.drew⟩, rfl⟩ (by simpa using h ⟨⟨w, hS⟩⟩)

theorem after_out {S : World} {Q : World → Prop} (h : ∀ w', Below S.heap.size S w' → Q w') : ∀ w', (∃ n : After S, w' = n.w) → Q w' := by
  rintro _ ⟨n, rfl⟩
  exact h _ n.h
end Go.Proofs.Ytngoopfdfihkpaa.Kit
