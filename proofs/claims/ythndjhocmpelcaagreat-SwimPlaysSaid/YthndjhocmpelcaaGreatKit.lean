/- Small plain lemmas for the walks of this seat: what lay before a call lies there behind it; a region that draws its order, walked once, its calls making new memory alone. No condition. -/
import Derived.Handy
import Derived.Deep.QuietTactic
import Derived.BigQuiet
import Derived.Laws.StructEq
namespace Go.Proofs.YthndjhocmpelcaaGreat.Kit
open Go.RowKit

theorem bcell {W w1 : World} (hb : Below W.heap.size W w1) : (∀ b o, b < W.heap.size → w1.cell? ⟨b, o, none⟩ = W.cell? ⟨b, o, none⟩) ∧ (∀ b o, b < W.heap.size → w1.frozen? ⟨b, o, none⟩ = W.frozen? ⟨b, o, none⟩) :=
  ⟨fun b o h => hb.cell (p := ⟨b, o, none⟩) h, fun b o h => hb.frozen (p := ⟨b, o, none⟩) h⟩

/-- A world in which all that lay in W lies as it did. -/
structure After (W : World) where
  w : World
  h : Below W.heap.size W w

theorem After.cell {W : World} (n : After W) (b o : Nat) (hb : b < W.heap.size) : n.w.cell? ⟨b, o, none⟩ = W.cell? ⟨b, o, none⟩ := n.h.cell (p := ⟨b, o, none⟩) hb
theorem After.size {W : World} (n : After W) : W.heap.size ≤ n.w.heap.size := n.h.size

theorem After.calls {P : Program} {f : FuncId} {args : Array Value} {W : World} {n : After W} {v : Value}
    (h : Calls P f args n.w fun e w' => e = .returned v ∧ Below n.w.heap.size n.w w') : Calls P f args n.w fun e w'' => e = .returned v ∧ ∃ m : After W, w'' = m.w :=
  h.mono fun _ w' ⟨he, hb⟩ => ⟨he, ⟨w', n.h.trans (hb.mono n.h.size)⟩, rfl⟩

theorem wp_region_after {P : Program} {id : Nat} {Q : Exit → Act → World → Prop} {a : Act} {w : World} {l : List Oper} (hm : P.follows .mixedOrders = true) (hB : Region.lexB .any l.toArray = true)
    (h : Nonempty (After w) → wpQuiet P l.toArray (fun w' => ∃ n : After w, w' = n.w) (fun a' => ∀ w', (∃ n : After w, w' = n.w) → Q .normal a' w') l a) : (Code.region id l.toArray true).wp P Q a w :=
  wp_region_quiet (C := fun w' => ∃ n : After w, w' = n.w) hm hB ⟨⟨_, (Below.refl _ _).drew⟩, rfl⟩ (by simpa using h ⟨⟨w, Below.refl _ _⟩⟩)

/-- The same over an earlier world S. -/
theorem wp_region_since {P : Program} {id : Nat} {Q : Exit → Act → World → Prop} {a : Act} {w : World} {l : List Oper} (S : World) (hS : Below S.heap.size S w) (hm : P.follows .mixedOrders = true) (hB : Region.lexB .any l.toArray = true)
    (h : Nonempty (After S) → wpQuiet P l.toArray (fun w' => ∃ n : After S, w' = n.w) (fun a' => ∀ w', (∃ n : After S, w' = n.w) → Q .normal a' w') l a) : (Code.region id l.toArray true).wp P Q a w :=
  wp_region_quiet (C := fun w' => ∃ n : After S, w' = n.w) hm hB ⟨⟨_, hS.drew⟩, rfl⟩ (by simpa using h ⟨⟨w, hS⟩⟩)

theorem wpList_of_quiet {P : Program} {ops : Array Oper} {C : World → Prop} {Q : Exit → Act → World → Prop} : ∀ (l : List Oper) (a : Act) (w : World), C w →
    wpQuiet P ops C (fun a' => ∀ w', C w' → Q .normal a' w') l a → wpList P ops Q l a w
  | [], _, _, hC, h => h _ hC
  | o :: l, a, w, hC, h => by
    unfold wpQuiet at h
    unfold wpList
    split at h
    · rename_i hw
      rw [if_pos hw]
      exact .inl <| Oper.wp_of_quiet hC (fun a' w' hC' hK => wpList_of_quiet l a' w' hC' hK) h
    · rename_i hw
      rw [if_neg hw]
      exact wpList_of_quiet l _ w hC h

/-- A region in the text's order, by the same walk. -/
theorem wp_region_text {P : Program} {id : Nat} {Q : Exit → Act → World → Prop} {a : Act} {w : World} {l : List Oper} (S : World) (hS : Below S.heap.size S w)
    (h : Nonempty (After S) → wpQuiet P l.toArray (fun w' => ∃ n : After S, w' = n.w) (fun a' => ∀ w', (∃ n : After S, w' = n.w) → Q .normal a' w') l a) : (Code.region id l.toArray false).wp P Q a w :=
  wp_region_lit (wpList_of_quiet l a w ⟨⟨w, hS⟩, rfl⟩ (h ⟨⟨w, hS⟩⟩))

/-- The two again, the cells of S at hand. -/
theorem wp_draws {P : Program} {id : Nat} {Q : Exit → Act → World → Prop} {a : Act} {w : World} {l : List Oper} (S : World) (hS : Below S.heap.size S w) (hm : P.follows .mixedOrders = true) (hB : Region.lexB .any l.toArray = true)
    (h : Nonempty (After S) → (∀ (n : After S) (b o : Nat), b < S.heap.size → n.w.cell? ⟨b, o, none⟩ = S.cell? ⟨b, o, none⟩) →
      wpQuiet P l.toArray (fun w' => ∃ n : After S, w' = n.w) (fun a' => ∀ w', (∃ n : After S, w' = n.w) → Q .normal a' w') l a) : (Code.region id l.toArray true).wp P Q a w :=
  wp_region_since S hS hm hB (fun hne => h hne After.cell)
theorem wp_text {P : Program} {id : Nat} {Q : Exit → Act → World → Prop} {a : Act} {w : World} {l : List Oper} (S : World) (hS : Below S.heap.size S w)
    (h : Nonempty (After S) → (∀ (n : After S) (b o : Nat), b < S.heap.size → n.w.cell? ⟨b, o, none⟩ = S.cell? ⟨b, o, none⟩) →
      wpQuiet P l.toArray (fun w' => ∃ n : After S, w' = n.w) (fun a' => ∀ w', (∃ n : After S, w' = n.w) → Q .normal a' w') l a) : (Code.region id l.toArray false).wp P Q a w :=
  wp_region_text S hS (fun hne => h hne After.cell)

theorem after_cells {S : World} {Q : World → Prop} (h : ∀ w', Below S.heap.size S w' → (∀ b o, b < S.heap.size → w'.cell? ⟨b, o, none⟩ = S.cell? ⟨b, o, none⟩) → Q w') : ∀ w', (∃ n : After S, w' = n.w) → Q w' := by
  rintro _ ⟨n, rfl⟩
  exact h _ n.h n.cell
theorem Calls.cells {P : Program} {f : FuncId} {args : Array Value} {W : World} {R : Ending → World → Prop} {v : Value}
    (c : Calls P f args W fun e w' => e = .returned v ∧ Below W.heap.size W w')
    (h : ∀ w', Below W.heap.size W w' → (∀ b o, b < W.heap.size → w'.cell? ⟨b, o, none⟩ = W.cell? ⟨b, o, none⟩) → R (.returned v) w') : Calls P f args W R :=
  c.mono fun e w' ⟨he, hb⟩ => by subst he; exact h w' hb (bcell hb).1

theorem after_out {S : World} {Q : World → Prop} (h : ∀ w', Below S.heap.size S w' → Q w') : ∀ w', (∃ n : After S, w' = n.w) → Q w' := by
  rintro _ ⟨n, rfl⟩
  exact h _ n.h
end Go.Proofs.YthndjhocmpelcaaGreat.Kit
