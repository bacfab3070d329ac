/- Chapter 2: Hear and Of, whatever is asked: the contracts. Condition: the view lies in a block of its own. -/
import Derived.Test.YthobimdnjggkfaaBelL
namespace Go.Proofs.Ythobimdnjggkfaa.Bel
open Go.RowKit Kit PBeliefJoins
set_option linter.unusedVariables false
theorem frozen_of_vw {w : World} {g : Nat} {p q : Nat → Int} (h : Vw w g p q) (o : Nat) : w.frozen? ⟨g, o, none⟩ = false := frozen_of_row w g o _ 71 h
theorem hearB_may {p q : Nat → Int} {n i h : Int} (hm : mayC n i h = false) : Hid (hearB p q n i h = false) := by show hearB p q n i h = false; unfold hearB; rw [hm]; rfl
theorem hearB_zero {p q : Nat → Int} {n i h : Int} (h0 : h = 0) : Hid (hearB p q n i h = false) := by show hearB p q n i h = false; unfold hearB; simp [h0]
theorem hearB_no {p q : Nat → Int} {n i h : Int} (hc : cmpC i h (p n.toNat) (q n.toNat) ≤ 0) : Hid (hearB p q n i h = false) := by
  show hearB p q n i h = false
  unfold hearB
  have : ¬ (0 < cmpC i h (p n.toNat) (q n.toNat)) := by omega
  simp [this]
theorem hearB_yes {p q : Nat → Int} {n i h : Int} (hm : mayC n i h = true) (h0 : ¬ h = 0) (hc : ¬ cmpC i h (p n.toNat) (q n.toNat) ≤ 0) : Hid (hearB p q n i h = true) := by
  show hearB p q n i h = true
  unfold hearB
  have : 0 < cmpC i h (p n.toNat) (q n.toNat) := by omega
  simp [this, hm, h0]
theorem hear0 (p q : Nat → Int) (g : Nat) (n i h : Int) (w : World) (hv : Vw w g p q) :
    Calls Try.prog 33 #[.pointer (some ⟨g, 0, none⟩), .agg #[.int .i64 n, .int .i64 i, .int .i64 h]] w (Heard w g p q n i h) := by
  cases hm : mayC n i h with
  | false => exact hear_may p q g n i h _ w hv hv.lt hv.cell (hearB_may hm) hm rfl
  | true =>
    by_cases h0 : h = 0
    · exact hear_none p q g n i h _ w hv hv.lt hv.cell (hearB_zero h0) hm (by simpa using h0) rfl
    · have hn : 0 ≤ n ∧ n < 8 := by unfold mayC at hm; simp at hm; omega
      have h0' : (h == 0) = false := by simpa using h0
      have e8 : n = 0 ∨ n = 1 ∨ n = 2 ∨ n = 3 ∨ n = 4 ∨ n = 5 ∨ n = 6 ∨ n = 7 := by omega
      rcases e8 with rfl | rfl | rfl | rfl | rfl | rfl | rfl | rfl
      · by_cases hc : cmpC i h (p 0) (q 0) ≤ 0
        · exact hear_no0 p q g i h _ w hv hv.lt hv.cell (hearB_no (n := 0) hc) hm h0' rfl (by simpa using hc)
        · exact hear_yes0 p q g i h _ w hv hv.lt hv.cell (frozen_of_vw hv) (hearB_yes (n := 0) hm h0 hc) hm h0' rfl (by simpa using hc)
      · by_cases hc : cmpC i h (p 1) (q 1) ≤ 0
        · exact hear_no1 p q g i h _ w hv hv.lt hv.cell (hearB_no (n := 1) hc) hm h0' rfl (by simpa using hc)
        · exact hear_yes1 p q g i h _ w hv hv.lt hv.cell (frozen_of_vw hv) (hearB_yes (n := 1) hm h0 hc) hm h0' rfl (by simpa using hc)
      · by_cases hc : cmpC i h (p 2) (q 2) ≤ 0
        · exact hear_no2 p q g i h _ w hv hv.lt hv.cell (hearB_no (n := 2) hc) hm h0' rfl (by simpa using hc)
        · exact hear_yes2 p q g i h _ w hv hv.lt hv.cell (frozen_of_vw hv) (hearB_yes (n := 2) hm h0 hc) hm h0' rfl (by simpa using hc)
      · by_cases hc : cmpC i h (p 3) (q 3) ≤ 0
        · exact hear_no3 p q g i h _ w hv hv.lt hv.cell (hearB_no (n := 3) hc) hm h0' rfl (by simpa using hc)
        · exact hear_yes3 p q g i h _ w hv hv.lt hv.cell (frozen_of_vw hv) (hearB_yes (n := 3) hm h0 hc) hm h0' rfl (by simpa using hc)
      · by_cases hc : cmpC i h (p 4) (q 4) ≤ 0
        · exact hear_no4 p q g i h _ w hv hv.lt hv.cell (hearB_no (n := 4) hc) hm h0' rfl (by simpa using hc)
        · exact hear_yes4 p q g i h _ w hv hv.lt hv.cell (frozen_of_vw hv) (hearB_yes (n := 4) hm h0 hc) hm h0' rfl (by simpa using hc)
      · by_cases hc : cmpC i h (p 5) (q 5) ≤ 0
        · exact hear_no5 p q g i h _ w hv hv.lt hv.cell (hearB_no (n := 5) hc) hm h0' rfl (by simpa using hc)
        · exact hear_yes5 p q g i h _ w hv hv.lt hv.cell (frozen_of_vw hv) (hearB_yes (n := 5) hm h0 hc) hm h0' rfl (by simpa using hc)
      · by_cases hc : cmpC i h (p 6) (q 6) ≤ 0
        · exact hear_no6 p q g i h _ w hv hv.lt hv.cell (hearB_no (n := 6) hc) hm h0' rfl (by simpa using hc)
        · exact hear_yes6 p q g i h _ w hv hv.lt hv.cell (frozen_of_vw hv) (hearB_yes (n := 6) hm h0 hc) hm h0' rfl (by simpa using hc)
      · by_cases hc : cmpC i h (p 7) (q 7) ≤ 0
        · exact hear_no7 p q g i h _ w hv hv.lt hv.cell (hearB_no (n := 7) hc) hm h0' rfl (by simpa using hc)
        · exact hear_yes7 p q g i h _ w hv hv.lt hv.cell (frozen_of_vw hv) (hearB_yes (n := 7) hm h0 hc) hm h0' rfl (by simpa using hc)

def onN (n : Int) : Int := if 0 ≤ n ∧ n < 8 then n else 0
def on (p : Nat → Int) (n : Int) : Int := if 0 ≤ n ∧ n < 8 then p n.toNat else 0
theorem of0 (p q : Nat → Int) (g : Nat) (n : Int) (w : World) (hv : Vw w g p q) :
    Calls Try.prog 24 #[.pointer (some ⟨g, 0, none⟩), .int .i64 n] w fun e w' => e = .returned (.agg #[.int .i64 (onN n), .int .i64 (on p n), .int .i64 (on q n)]) ∧ Below w.heap.size w w' := by
  have hg := hv.lt
  have hvc := hv.cell
  have HV := Hid.mk_ hv
  clear hv
  by_cases hn : 0 ≤ n ∧ n < 8
  · have e8 : n = 0 ∨ n = 1 ∨ n = 2 ∨ n = 3 ∨ n = 4 ∨ n = 5 ∨ n = 6 ∨ n = 7 := by omega
    rcases e8 with rfl | rfl | rfl | rfl | rfl | rfl | rfl | rfl
    all_goals
      clear hn
      go_enter Try.func24, Try.ntmps24
      go_wp2_with fail
      go_returns
      exact ⟨rfl, by go_grown⟩
  · have e1 : onN n = 0 := by unfold onN; rw [if_neg hn]
    have e2 : on p n = 0 := by unfold on; rw [if_neg hn]
    have e3 : on q n = 0 := by unfold on; rw [if_neg hn]
    rw [e1, e2, e3]
    clear e1 e2 e3
    by_cases h0 : n < 0
    · go_enter Try.func24, Try.ntmps24
      go_wp2_with fail
      go_returns
      exact ⟨rfl, by go_grown⟩
    · have h8 : 8 ≤ n := by omega
      clear hn
      go_enter Try.func24, Try.ntmps24
      go_wp2_with fail
      go_returns
      exact ⟨rfl, by go_grown⟩
end Go.Proofs.Ythobimdnjggkfaa.Bel
