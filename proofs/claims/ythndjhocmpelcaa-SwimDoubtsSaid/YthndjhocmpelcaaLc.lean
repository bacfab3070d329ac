/- Chapter 6, plain: two detectors, one doubts the other: at each incarnation below 1000, reckoned one by one. No condition. -/
import Derived.Test.YthndjhocmpelcaaLb
namespace Go.Proofs.Ythndjhocmpelcaa.Swi
open Go.RowKit Kit Hth Tri3
set_option linter.unusedVariables false
def clE (a b : Cl) : Bool := decide (a.n = b.n) && (decide (a.i = b.i) && decide (a.h = b.h))
theorem clE_eq {a b : Cl} (h : clE a b = true) : a = b := by
  unfold clE at h
  simp at h
  obtain ⟨h1, h2, h3⟩ := h
  cases a
  cases b
  simp_all
def clsE : List Cl → List Cl → Bool
  | [], [] => true
  | a :: l, b :: m => clE a b && clsE l m
  | _, _ => false
theorem clsE_eq : ∀ {l m : List Cl}, clsE l m = true → l = m
  | [], [], _ => rfl
  | a :: l, b :: m, h => by
    simp only [clsE, Bool.and_eq_true] at h
    rw [clE_eq h.1, clsE_eq h.2]
  | [], _ :: _, h => by simp [clsE] at h
  | _ :: _, [], h => by simp [clsE] at h
def omE (a b : Om) : Bool := decide (a.k = b.k) && (decide (a.f = b.f) && (decide (a.t = b.t) && (decide (a.s = b.s) && (decide (a.fo = b.fo) && (decide (a.ab = b.ab) && clsE a.cs b.cs)))))
theorem omE_eq {a b : Om} (h : omE a b = true) : a = b := by
  unfold omE at h
  simp only [Bool.and_eq_true, decide_eq_true_eq] at h
  obtain ⟨h1, h2, h3, h4, h5, h6, h7⟩ := h
  have h8 := clsE_eq h7
  cases a
  cases b
  simp_all
def omsE : List Om → List Om → Bool
  | [], [] => true
  | a :: l, b :: m => omE a b && omsE l m
  | _, _ => false
theorem omsE_eq : ∀ {l m : List Om}, omsE l m = true → l = m
  | [], [], _ => rfl
  | a :: l, b :: m, h => by
    simp only [omsE, Bool.and_eq_true] at h
    rw [omE_eq h.1, omsE_eq h.2]
  | [], _ :: _, h => by simp [omsE] at h
  | _ :: _, [], h => by simp [omsE] at h
def tA (dr i h : Int) : Dt × List Om := dTick [1] dr (dHear (dNew 0 3) ⟨1, i, h⟩)
def tM (i h : Int) : List Cl := [⟨0, 3, 1⟩, ⟨1, i, h⟩, ⟨1, i, h⟩]
def tK (i : Int) : List Cl := [⟨1, i + 1, 1⟩, ⟨0, 3, 1⟩, ⟨1, i + 1, 1⟩]
def tB (i h : Int) : Dt := dHandle (dNew 1 i) 1 0 1 1 0 0 (tM i h)
def tC (dr i h : Int) : Dt := dHandle (tA dr i h).1 2 1 0 1 0 0 (tK i)
def chkT (dr i h : Int) : Bool :=
  omsE (tA dr i h).2 [⟨1, 0, 1, 1, 0, 0, tM i h⟩] && (omsE (oHandle (dNew 1 i) 1 0 1 1 0 0 (tM i h)) [⟨2, 1, 0, 1, 0, 0, tK i⟩] && (decide ((tB i h).inc = i + 1) && (decide ((cOf (tB i h) 0).i = 3) && clE (cOf (tC dr i h) 1) ⟨1, i + 1, 1⟩)))
def allN (f : Nat → Bool) : Nat → Bool
  | 0 => true
  | n + 1 => f n && allN f n
theorem allN_at {f : Nat → Bool} : ∀ {n : Nat}, allN f n = true → ∀ k, k < n → f k = true
  | 0, _, k, hk => by omega
  | n + 1, h, k, hk => by
    simp only [allN, Bool.and_eq_true] at h
    by_cases e : k = n
    · rw [e]; exact h.1
    · exact allN_at h.2 k (by omega)
set_option maxRecDepth 1000000 in
theorem all_tells (dr : Int) : allN (fun n => chkT dr (n : Int) 2 && chkT dr (n : Int) 3) 1000 = true := by kernel_rfl
theorem tells (dr i h : Int) (hi : 0 ≤ i ∧ i < 1000) (hh : h = 2 ∨ h = 3) :
    (dTick [1] dr (dHear (dNew 0 3) ⟨1, i, h⟩)).2 = [⟨1, 0, 1, 1, 0, 0, tM i h⟩] ∧ oHandle (dNew 1 i) 1 0 1 1 0 0 (tM i h) = [⟨2, 1, 0, 1, 0, 0, tK i⟩] ∧ (tB i h).inc = i + 1 ∧ (cOf (tB i h) 0).i = 3 ∧ cOf (dHandle (dTick [1] dr (dHear (dNew 0 3) ⟨1, i, h⟩)).1 2 1 0 1 0 0 (tK i)) 1 = ⟨1, i + 1, 1⟩ := by
  have h1 := allN_at (all_tells dr) i.toNat (by omega)
  have e : ((i.toNat : Nat) : Int) = i := by omega
  simp only [e, Bool.and_eq_true] at h1
  have h2 : chkT dr i h = true := by
    rcases hh with rfl | rfl
    · exact h1.1
    · exact h1.2
  unfold chkT at h2
  simp only [Bool.and_eq_true, decide_eq_true_eq] at h2
  obtain ⟨a1, a2, a3, a4, a5⟩ := h2
  exact ⟨omsE_eq a1, omsE_eq a2, a3, a4, clE_eq a5⟩
end Go.Proofs.Ythndjhocmpelcaa.Swi
