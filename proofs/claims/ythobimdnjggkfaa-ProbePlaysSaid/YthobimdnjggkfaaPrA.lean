/- Chapter 4: rows of whole numbers, read and owned: words, and the contracts of the functions that look for a number in a row. Conditions: the row lies in memory. -/
import Derived.Test.YthobimdnjggkfaaProg
import Derived.Test.YthobimdnjggkfaaKit
import Derived.Test.YthobimdnjggkfaaReads
import Derived.WalkKit
import Derived.OwnWalk
import Derived.Deep.LoopGhost
namespace Go.Proofs.Ythobimdnjggkfaa.Prb
open Go.RowKit Kit
set_option linter.unusedVariables false
theorem Hid.mk_ {p : Prop} (h : p) : Hid p := h
/-- The numbers zs lie from A on. -/
def Row (w : World) (A : Option Addr) (zs : List Int) : Prop :=
  ∀ (j : Nat) (x : Int), zs[j]? = some x → ∃ b off, A = some ⟨b, off, none⟩ ∧ w.cell? ⟨b, off + j, none⟩ = some (.int .i64 x)
theorem Row.keep {w w' : World} {A : Option Addr} {zs : List Int} (h : Row w A zs) (hk : ∀ b off, A = some ⟨b, off, none⟩ → b < w.heap.size → w'.heap[b]? = w.heap[b]?) : Row w' A zs := by
  intro j x hx
  obtain ⟨b, off, rfl, hc⟩ := h j x hx
  refine ⟨b, off, rfl, ?_⟩
  have := hk b off rfl (World.block_lt_of_cell? w _ hc)
  rw [← hc]
  simp [World.cell?, this]
theorem Row.below {w w' : World} {A : Option Addr} {zs : List Int} (h : Row w A zs) (hb : Below w.heap.size w w') : Row w' A zs :=
  h.keep fun b _ _ hlt => hb.block b hlt
theorem Row.nil (w : World) (A : Option Addr) : Row w A [] := fun j x h => by simp at h
theorem mem_of {zs : List Int} {k : Nat} (x : Int) (hk : k < zs.length) (hp : ∀ j, j < k → zs[j]? ≠ some x) (he : x ≠ zs[k]) : ∀ j, j < k + 1 → zs[j]? ≠ some x := by
  intro j hj
  by_cases e : j = k
  · subst e
    rw [List.getElem?_eq_getElem hk]
    intro h
    exact he (by simpa using h.symm)
  · exact hp j (by omega)
set_option maxHeartbeats 1000000 in
theorem index (A : Option Addr) (n c : Nat) (zs : List Int) (x : Int) (w : World) (hr : Hid (Row w A zs)) (hn : Hid (n = zs.length)) (hm : n ≤ 9223372036854775807) :
    Calls Try.prog 49 #[.slice A n c, .int .i64 x] w fun e w' => ∃ r : Int, e = .returned (.int .i64 r) ∧ Hid (0 ≤ r ↔ x ∈ zs) ∧ w' = w := by
  go_enter Try.func49, Try.ntmps49
  go_wp2_with fail
  go_loop [5, 8] (fun _ i => ∃ k : Nat, k ≤ n ∧ i = .int .i64 (k : Int) ∧ ∀ j, j < k → zs[j]? ≠ some x) (fun _ i => n - (intOf i).toNat)
  case atStart => exact ⟨0, by omega, rfl, fun j hj => by omega⟩
  case round =>
    obtain ⟨k, hk, rfl, hp⟩ := hrel
    have HP := Hid.mk_ hp
    clear hp
    by_cases hlt : k < n
    · obtain ⟨y, hy⟩ : ∃ y, zs[k]? = some y := ⟨_, List.getElem?_eq_getElem (by have := hn.out; omega)⟩
      obtain ⟨b, off, rfl, hc⟩ := hr.out k y hy
      have HY := Hid.mk_ hy
      clear hy
      by_cases he : x = y
      · go_wp2_with fail
        go_ret
        exact ⟨_, rfl, Hid.mk_ (by simp; exact List.mem_of_getElem? HY.out), rfl⟩
      · go_wp2_with fail
        go_round
        case rel =>
          refine ⟨k + 1, by omega, by go_num, fun j hj => ?_⟩
          by_cases e : j = k
          · subst e
            rw [HY.out]
            intro h
            exact he (by simpa using h.symm)
          · exact HP.out j (by omega)
        case measure => simp [intOf]; omega
    · obtain rfl : k = n := by omega
      go_wp2_with fail
      go_ret
      refine ⟨_, rfl, Hid.mk_ (by simp; intro hm; obtain ⟨j, hj⟩ := List.getElem?_of_mem hm; exact HP.out j (by have := (List.getElem?_eq_some_iff.1 hj).1; have := hn.out; omega) hj), rfl⟩
/-- slices.Contains. -/
theorem contains0 (A : Option Addr) (n c : Nat) (zs : List Int) (x : Int) (w : World) (hr : Hid (Row w A zs)) (hn : Hid (n = zs.length)) (hm : n ≤ 9223372036854775807) (q : Bool) (hq : Hid (q = decide (x ∈ zs))) :
    Calls Try.prog 39 #[.slice A n c, .int .i64 x] w fun e w' => e = .returned (.bool q) ∧ w' = w := by
  go_enter Try.func39, Try.ntmps39
  go_wp2_with fail
  refine (index A n c zs x _ hr hn hm).mono ?_
  rintro e w1 ⟨r, rfl, h, rfl⟩
  go_wp2_with fail
  go_ret
  exact ⟨by rw [hq.out]; simp [h.out], rfl⟩
theorem contains (A : Option Addr) (n c : Nat) (zs : List Int) (x : Int) (w : World) (hr : Hid (Row w A zs)) (hn : Hid (n = zs.length)) (hm : n ≤ 9223372036854775807) (q : Bool) (hq : Hid (q = decide (x ∈ zs))) :
    Calls Try.prog 39 #[.slice A n c, .int .i64 x] w fun e w' => e = .returned (.bool q) ∧ Below w.heap.size w w' :=
  (contains0 A n c zs x w hr hn hm q hq).mono fun e w' ⟨h1, h2⟩ => ⟨h1, by subst h2; exact Below.refl _ _⟩
end Go.Proofs.Ythobimdnjggkfaa.Prb
