/- Chapter 6, plain: a node that does not answer, tick by tick: reckoned. No condition. -/
import Derived.Test.YthndjhocmpelcaaLc
namespace Go.Proofs.Ythndjhocmpelcaa.Swi
open Go.RowKit Kit Hth Tri3
set_option linter.unusedVariables false
/-- Each message is answered. -/
def hAll (d : Dt) (ms : List Om) : Dt := ms.foldl (fun d m => dHandle d 2 1 0 m.s 0 0 []) d
theorem hAll_snoc (d : Dt) (ms : List Om) (m : Om) : hAll d (ms ++ [m]) = dHandle (hAll d ms) 2 1 0 m.s 0 0 [] := by simp [hAll]
def dA : Dt := dHear (dNew 0 5) ⟨1, 3, 1⟩
def sD (ans : Bool) (dr : Int) : Nat → Dt
  | 0 => if ans then dHandle (dTick [1] dr dA).1 2 1 0 1 0 0 [] else (dTick [1] dr dA).1
  | k + 1 => if ans then hAll (dTick [1] dr (sD ans dr k)).1 (dTick [1] dr (sD ans dr k)).2 else (dTick [1] dr (sD ans dr k)).1
def want (ans : Bool) (k : Nat) : Int := if ans then 1 else if 9 ≤ k then 3 else if 3 ≤ k then 2 else 1
def noReq : List Om → Bool
  | [] => true
  | m :: ms => !(m.k == 3) && noReq ms
theorem noReq_at : ∀ {ms : List Om} {j : Nat} {m : Om}, noReq ms = true → ms[j]? = some m → (m.k == 3) = false
  | [], _, _, _, h => by simp at h
  | a :: ms, 0, m, h, e => by
    obtain rfl : a = m := by simpa using e
    simp only [noReq, Bool.and_eq_true] at h
    simpa using h.1
  | a :: ms, j + 1, m, h, e => by
    simp only [noReq, Bool.and_eq_true] at h
    exact noReq_at h.2 (by simpa using e)
def chkD (ans : Bool) (dr : Int) (k : Nat) : Bool :=
  noReq (dTick [1] dr (sD ans dr k)).2 && (decide ((dTick [1] dr (sD ans dr k)).2.length ≤ 5) && (decide ((sD ans dr k).now < 1000000) && clE (cOf (sD ans dr (k + 1)) 1) ⟨1, 3, want ans k⟩))
set_option maxRecDepth 1000000 in
theorem all_doubts (dr : Int) : allN (fun k => chkD true dr k && chkD false dr k) 10 = true := by kernel_rfl
set_option maxRecDepth 1000000 in
theorem first_ping (dr : Int) : (dTick [1] dr dA).2 = [⟨1, 0, 1, 1, 0, 0, [⟨0, 5, 1⟩, ⟨1, 3, 1⟩]⟩] := by kernel_rfl
theorem doubts (ans : Bool) (dr : Int) (k : Nat) (hk : k < 10) : noReq (dTick [1] dr (sD ans dr k)).2 = true ∧ (dTick [1] dr (sD ans dr k)).2.length ≤ 5 ∧ (sD ans dr k).now < 1000000 ∧ cOf (sD ans dr (k + 1)) 1 = ⟨1, 3, want ans k⟩ := by
  have h1 := allN_at (all_doubts dr) k hk
  simp only [Bool.and_eq_true] at h1
  have h2 : chkD ans dr k = true := by
    cases ans
    · exact h1.2
    · exact h1.1
  unfold chkD at h2
  simp only [Bool.and_eq_true, decide_eq_true_eq] at h2
  obtain ⟨a1, a2, a3, a4⟩ := h2
  exact ⟨a1, a2, a3, clE_eq a4⟩
theorem Vok.hAll : ∀ (ms : List Om) {d : Dt} (h : Vok d), Vok (hAll d ms)
  | [], d, h => h
  | m :: ms, d, h => Vok.hAll ms (h.handle 2 1 0 m.s 0 0 [])
theorem Vok.dA : Vok dA := (Vok.new 0 5).hear ⟨1, 3, 1⟩
theorem sD_zero_false (dr : Int) : sD false dr 0 = (dTick [1] dr dA).1 := by rw [sD, if_neg (by decide)]
theorem sD_zero_true (dr : Int) : sD true dr 0 = dHandle (dTick [1] dr dA).1 2 1 0 1 0 0 [] := by rw [sD, if_pos rfl]
theorem sD_succ_false (dr : Int) (k : Nat) : sD false dr (k + 1) = (dTick [1] dr (sD false dr k)).1 := by rw [sD, if_neg (by decide)]
theorem sD_succ_true (dr : Int) (k : Nat) : sD true dr (k + 1) = hAll (dTick [1] dr (sD true dr k)).1 (dTick [1] dr (sD true dr k)).2 := by rw [sD, if_pos rfl]
theorem Vok.sD : ∀ (ans : Bool) (dr : Int) (k : Nat), Vok (sD ans dr k)
  | false, dr, 0 => by rw [sD_zero_false]; exact Vok.dA.tick
  | true, dr, 0 => by rw [sD_zero_true]; exact Vok.dA.tick.handle _ _ _ _ _ _ _
  | false, dr, k + 1 => by rw [sD_succ_false]; exact (Vok.sD false dr k).tick
  | true, dr, k + 1 => by rw [sD_succ_true]; exact Vok.hAll _ (Vok.sD true dr k).tick
end Go.Proofs.Ythndjhocmpelcaa.Swi
