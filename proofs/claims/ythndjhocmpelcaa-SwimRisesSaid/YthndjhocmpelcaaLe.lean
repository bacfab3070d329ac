/- Chapter 6, plain: what is believed never falls; one's own claim is the loudest of oneself. No condition. -/
import Derived.Test.YthndjhocmpelcaaLb
namespace Go.Proofs.Ythndjhocmpelcaa.Swi
open Go.RowKit Kit Hth Tri3
set_option linter.unusedVariables false
/-- How loud. -/
def Kl (i h : Int) : Int := if h = 4 then 8000000 else 4 * i + h
theorem cmp_pos {i h j k : Int} (h1 : 0 ≤ i ∧ i ≤ 1000000 ∧ 0 ≤ h ∧ h ≤ 4) (h2 : 0 ≤ j ∧ j ≤ 1000000 ∧ 0 ≤ k ∧ k ≤ 4) (hc : 0 < cmpC i h j k) : Kl j k ≤ Kl i h := by
  unfold cmpC at hc
  unfold Kl
  repeat' split at hc
  all_goals first | omega | (repeat' split) <;> omega
theorem cmp_neg {i h j k : Int} (h1 : 0 ≤ i ∧ i ≤ 1000000 ∧ 0 ≤ h ∧ h ≤ 4) (h2 : 0 ≤ j ∧ j ≤ 1000000 ∧ 0 ≤ k ∧ k ≤ 4) (hk : Kl j k ≤ Kl i h) : ¬ cmpC i h j k < 0 := by
  unfold cmpC
  unfold Kl at hk
  repeat' split at hk
  all_goals (repeat' split) <;> omega
/-- Nothing falls. -/
def Up (d d' : Dt) : Prop := ∀ n : Nat, n < 8 → Kl (d.p n) (d.q n) ≤ Kl (d'.p n) (d'.q n)
theorem Up.refl (d : Dt) : Up d d := fun _ _ => Int.le_refl _
theorem Up.trans {a b c : Dt} (h : Up a b) (k : Up b c) : Up a c := fun n hn => Int.le_trans (h n hn) (k n hn)
theorem Up.of {d d' : Dt} (hp : d'.p = d.p) (hq : d'.q = d.q) : Up d d' := fun n hn => by rw [hp, hq]; exact Int.le_refl _
theorem Up.heard {d : Dt} (hv : Vok d) (c : Cl) : Up d (dHeard d c) := fun n hn => by
  unfold dHeard Bel.upd
  simp only
  by_cases e : Bel.hearB d.p d.q c.n c.i c.h = true ∧ c.n = (n : Int)
  · rw [if_pos e, if_pos e]
    obtain ⟨h1, h2⟩ := e
    unfold Bel.hearB at h1
    rw [Bool.and_eq_true, Bool.and_eq_true] at h1
    obtain ⟨m, _, l⟩ := h1
    rw [h2] at l
    have b1 : 0 ≤ c.i ∧ c.i ≤ 1000000 ∧ 0 ≤ c.h ∧ c.h ≤ 4 := by unfold mayC at m; simp at m; omega
    exact cmp_pos b1 (hv n hn) (by simpa using l)
  · rw [if_neg e, if_neg e]
    exact Int.le_refl _
/-- Its own claim: gone for good, if it has left; else alive, with its incarnation. -/
structure Ow (s : Nat) (d : Dt) : Prop where
  self : d.self = (s : Int)
  lt : s < 8
  inc : 0 ≤ d.inc ∧ d.inc ≤ 1000000
  gone : d.left = true → d.q s = 4
  here : d.left = false → d.q s = 1 ∧ d.p s = d.inc
theorem Ow.of {s : Nat} {d d' : Dt} (h : Ow s d) (h1 : d'.self = d.self) (h2 : d'.inc = d.inc) (h3 : d'.left = d.left) (h4 : d'.p = d.p) (h5 : d'.q = d.q) : Ow s d' :=
  ⟨h1.trans h.self, h.lt, by rw [h2]; exact h.inc, fun e => by rw [h5]; exact h.gone (h3 ▸ e), fun e => by rw [h4, h5, h2]; exact h.here (h3 ▸ e)⟩
/-- One step: all stays in bounds, nothing falls. -/
structure Stp (s : Nat) (d d' : Dt) : Prop where
  vok : Vok d'
  ow : Ow s d'
  up : Up d d'
  inc : d.inc ≤ d'.inc
  left : d'.left = d.left
theorem Stp.refl {s : Nat} {d : Dt} (hv : Vok d) (ho : Ow s d) : Stp s d d := ⟨hv, ho, Up.refl d, Int.le_refl _, rfl⟩
theorem Stp.trans {s : Nat} {a b c : Dt} (h : Stp s a b) (k : Stp s b c) : Stp s a c := ⟨k.vok, k.ow, h.up.trans k.up, Int.le_trans h.inc k.inc, k.left.trans h.left⟩
theorem Stp.same {s : Nat} {d d' : Dt} (hv : Vok d) (ho : Ow s d) (h1 : d'.self = d.self) (h2 : d'.inc = d.inc) (h3 : d'.left = d.left) (h4 : d'.p = d.p) (h5 : d'.q = d.q) : Stp s d d' :=
  ⟨hv.of h4 h5, ho.of h1 h2 h3 h4 h5, Up.of h4 h5, by rw [h2]; exact Int.le_refl _, h3⟩
theorem says_here {s : Nat} {d : Dt} (h1 : d.self = (s : Int)) (h2 : s < 8) (h3 : 0 ≤ d.inc ∧ d.inc ≤ 1000000) (h4 : d.q s = 1) (h5 : d.p s < d.inc) : (dSays d 1).q s = 1 ∧ (dSays d 1).p s = d.inc := by
  have e : Bel.hearB d.p d.q d.self d.inc 1 = true ∧ d.self = (s : Int) := by
    refine ⟨?_, h1⟩
    unfold Bel.hearB
    rw [h1]
    have m : mayC (s : Int) d.inc 1 = true := by unfold mayC; simp; omega
    rw [m]
    simp [h4]
    unfold cmpC
    rw [if_neg (by decide), if_neg (by decide), if_neg (by omega), if_pos h5]
    decide
  unfold dSays Bel.upd
  simp only
  rw [if_pos e, if_pos e]
  exact ⟨rfl, rfl⟩
theorem Stp.ref {s : Nat} {d : Dt} (hv : Vok d) (ho : Ow s d) (i h : Int) (hi : 0 ≤ i ∧ i ≤ 1000000) : Stp s d (dRef d i h) := by
  unfold dRef
  split
  · rename_i hb
    have hle : d.inc ≤ i := by unfold dbt at hb; simp at hb; exact hb.2
    split
    · exact Stp.same hv ho rfl rfl rfl rfl rfl
    · rename_i hn
      have v1 : Vok { d with inc := i + 1 } := hv.of rfl rfl
      refine ⟨v1.says 1, ⟨ho.self, ho.lt, ?_, fun e => ?_, fun e => ?_⟩, (Up.of (d' := { d with inc := i + 1 }) rfl rfl).trans (Up.heard v1 ⟨d.self, i + 1, 1⟩), ?_, rfl⟩
      · show 0 ≤ i + 1 ∧ i + 1 ≤ 1000000; omega
      · exact left_says (d := { d with inc := i + 1 }) (ho.gone e) 1
      · have hh := ho.here e
        have := says_here (d := { d with inc := i + 1 }) ho.self ho.lt (by show 0 ≤ i + 1 ∧ i + 1 ≤ 1000000; omega) hh.1 (by show d.p s < i + 1; rw [hh.2]; omega)
        exact this
      · show d.inc ≤ i + 1; omega
  · exact Stp.refl hv ho
theorem may_i {n i h : Int} (m : mayC n i h = true) : 0 ≤ n ∧ n < 8 ∧ 0 ≤ i ∧ i ≤ 1000000 := by unfold mayC at m; simp at m; omega
theorem Stp.hears {s : Nat} {d : Dt} (hv : Vok d) (ho : Ow s d) (c : Cl) (m : mayC c.n c.i c.h = true) : Stp s d (dHears d c) := by
  have hb := may_i m
  unfold dHears
  split
  · exact Stp.ref hv ho _ _ hb.2.2
  · rename_i hn
    split
    · have v1 := hv.heard c
      have hno : ∀ b : Bool, ¬ (b = true ∧ c.n = (s : Int)) := fun b e => hn (e.2.trans ho.self.symm)
      refine ⟨v1.of rfl rfl, ⟨ho.self, ho.lt, ho.inc, fun e => ?_, fun e => ?_⟩, Up.heard hv c, Int.le_refl _, rfl⟩
      · show Bel.upd d.q c.n c.h _ s = 4
        unfold Bel.upd
        rw [if_neg (hno _)]
        exact ho.gone e
      · show Bel.upd d.q c.n c.h _ s = 1 ∧ Bel.upd d.p c.n c.i _ s = d.inc
        unfold Bel.upd
        rw [if_neg (hno _), if_neg (hno _)]
        exact ho.here e
    · exact Stp.refl hv ho
theorem Stp.meetL {s : Nat} : ∀ (l : List Cl) {d : Dt} (hv : Vok d) (ho : Ow s d) (k : Nat), Stp s d (meetL d k l).1
  | [], d, hv, ho, k => Stp.refl hv ho
  | a :: l, d, hv, ho, k => by
    rw [Swi.meetL]
    split
    · rename_i h
      have h1 := Stp.hears hv ho a h.1
      exact h1.trans (Stp.meetL l h1.vok h1.ow _)
    · exact Stp.meetL l hv ho _
theorem Stp.meets {s : Nat} {d : Dt} (hv : Vok d) (ho : Ow s d) (f : Int) (l : List Cl) : Stp s d (dMeets d f l) := by
  have h1 := Stp.meetL l hv ho 0
  unfold dMeets
  simp only
  split
  · exact h1
  · exact h1.trans (Stp.hears h1.vok h1.ow _ (cOf_may h1.vok f 1 (by omega)))
theorem Stp.ans {s : Nat} {d : Dt} (hv : Vok d) (ho : Ow s d) (k t fo : Int) : Stp s d (dAns d k t fo) :=
  have h := ans_q d k t fo
  Stp.same hv ho h.2.2.2.2.1 h.2.2.2.2.2 h.2.2.1 h.2.1 h.1
theorem Stp.handle {s : Nat} {d : Dt} (hv : Vok d) (ho : Ow s d) (k f t n fo ab : Int) (ls : List Cl) : Stp s d (dHandle d k f t n fo ab ls) := by
  have h1 := Stp.meets hv ho f ls
  have h2 := h1.trans (Stp.ans h1.vok h1.ow k n fo)
  unfold dHandle
  split
  · exact Stp.refl hv ho
  · split
    · exact h2
    · exact h2.trans (Stp.same h2.vok h2.ow rfl rfl rfl rfl rfl)
theorem Stp.askL {s : Nat} : ∀ (l : List Int) {x : Dt × List Om} (hv : Vok x.1) (ho : Ow s x.1), Stp s x.1 (askL x l).1
  | [], x, hv, ho => Stp.refl hv ho
  | a :: l, x, hv, ho => by
    have h1 : Stp s x.1 (ask1 x a).1 := Stp.same hv ho rfl rfl rfl rfl rfl
    exact h1.trans (Stp.askL l (x := ask1 x a) h1.vok h1.ow)
theorem Stp.d2 {s : Nat} {d : Dt} (hv : Vok d) (ho : Ow s d) : Stp s d (d2 d) := by
  unfold Swi.d2
  split
  · have h1 := Stp.hears hv ho ⟨(cOf d d.asked).n, (cOf d d.asked).i, 2⟩ (cOf_may hv d.asked 2 (by omega))
    exact h1.trans (Stp.same h1.vok h1.ow rfl rfl rfl rfl rfl)
  · exact Stp.same hv ho rfl rfl rfl rfl rfl
theorem Stp.d100 {s : Nat} {d : Dt} (hv : Vok d) (ho : Ow s d) (id : Int) : Stp s d (d100 d id) := by
  unfold Swi.d100
  split
  · exact Stp.hears hv ho _ (cOf_may hv (id - 100) 3 (by omega))
  · exact Stp.refl hv ho
theorem Stp.dueS {s : Nat} {ps : List Int} {dr : Int} {x : Dt × List Om} (hv : Vok x.1) (ho : Ow s x.1) (id : Int) : Stp s x.1 (dueS ps dr x id).1 := by
  unfold Swi.dueS
  split
  · exact Stp.askL _ hv ho
  · split
    · exact Stp.d2 hv ho
    · exact Stp.d100 hv ho id
theorem Stp.dueA {s : Nat} {ps : List Int} {dr : Int} : ∀ (l : List Int) {x : Dt × List Om} (hv : Vok x.1) (ho : Ow s x.1), Stp s x.1 (dueA ps dr x l).1
  | [], x, hv, ho => Stp.refl hv ho
  | a :: l, x, hv, ho => by
    have h1 := Stp.dueS (ps := ps) (dr := dr) hv ho a
    exact h1.trans (Stp.dueA l h1.vok h1.ow)
theorem Stp.tick {s : Nat} {ps : List Int} {dr : Int} {d : Dt} (hv : Vok d) (ho : Ow s d) : Stp s d (dTick ps dr d).1 := by
  have h0 : Stp s d { d1 d with M := Wat.restL (d.now + 1) d.M } := Stp.same hv ho rfl rfl rfl rfl rfl
  have h1 : Stp s d (dDue ps dr d).1 := h0.trans (Stp.dueA _ (x := ({ d1 d with M := Wat.restL (d.now + 1) d.M }, [])) h0.vok h0.ow)
  unfold dTick
  split
  · exact Stp.same hv ho rfl rfl rfl rfl rfl
  · unfold tickA
    split
    · exact h1
    · split <;> exact h1.trans (Stp.same h1.vok h1.ow rfl rfl rfl rfl rfl)
theorem Stp.hear {s : Nat} {d : Dt} (hv : Vok d) (ho : Ow s d) (c : Cl) : Stp s d (dHear d c) := by
  unfold dHear
  split
  · rename_i h
    exact Stp.hears hv ho c (by unfold goodC at h; rw [Bool.and_eq_true] at h; exact h.1)
  · exact Stp.refl hv ho
/-- Leave. -/
theorem leave_step {s : Nat} {d : Dt} (hv : Vok d) (ho : Ow s d) : Vok (dLeave d) ∧ Ow s (dLeave d) ∧ Up d (dLeave d) ∧ d.inc ≤ (dLeave d).inc ∧ (dLeave d).left = true := by
  cases hl : d.left with
  | true =>
    rw [leave_same hl]
    exact ⟨hv, ho, Up.refl d, Int.le_refl _, hl⟩
  | false =>
    have hh := ho.here hl
    have v1 : Vok { d with left := true } := hv.of rfl rfl
    have e0 : dLeave d = dSays { d with left := true } 4 := by unfold dLeave; rw [hl]; rfl
    have e : Bel.hearB d.p d.q d.self d.inc 4 = true ∧ d.self = (s : Int) := by
      refine ⟨?_, ho.self⟩
      unfold Bel.hearB
      rw [ho.self]
      have m : mayC (s : Int) d.inc 4 = true := by have := ho.lt; have := ho.inc; unfold mayC; simp; omega
      rw [m]
      simp [hh.1]
      unfold cmpC
      rw [if_pos rfl, if_neg (by decide)]
      decide
    rw [e0]
    refine ⟨v1.says 4, ⟨ho.self, ho.lt, ho.inc, fun _ => ?_, fun e1 => ?_⟩, (Up.of (d' := { d with left := true }) rfl rfl).trans (Up.heard v1 ⟨d.self, d.inc, 4⟩), Int.le_refl _, rfl⟩
    · show Bel.upd d.q d.self 4 _ s = 4
      unfold Bel.upd
      exact if_pos e
    · cases e1
/-- Who hears that it is doubted. -/
theorem hear_doubt {s : Nat} {d : Dt} (ho : Ow s d) (c : Cl) (h1 : c.n = d.self) (h2 : c.h = 2 ∨ c.h = 3) (hm : mayC c.n c.i c.h = true) (h3 : d.inc ≤ c.i) : (c.i ≠ 1000000 → (dHear d c).inc = c.i + 1) ∧ (c.i = 1000000 → (dHear d c).over = true) := by
  have hg : goodC c = true := by
    unfold goodC
    rw [hm]
    rcases h2 with e | e <;> simp [e]
  have hd : dbt d.inc c.i c.h = true := by
    unfold dbt
    rcases h2 with e | e <;> simp [e, h3]
  unfold dHear
  rw [if_pos hg]
  unfold dHears
  rw [if_pos h1]
  unfold dRef
  rw [if_pos hd]
  refine ⟨fun e => by rw [if_neg e]; rfl, fun e => by rw [if_pos e]⟩
theorem new_ow {s : Nat} {i : Int} (hs : s < 8) (hi : 0 ≤ i ∧ i ≤ 1000000) : Ow s (dNew (s : Int) i) := by
  have e : Bel.hearB Bel.z8 Bel.z8 (s : Int) i 1 = true ∧ (s : Int) = (s : Int) := by
    refine ⟨?_, rfl⟩
    unfold Bel.hearB
    have m : mayC (s : Int) i 1 = true := by unfold mayC; simp; omega
    rw [m]
    show (true && (!((1 : Int) == 0) && decide (0 < cmpC i 1 0 0))) = true
    have : 0 < cmpC i 1 0 0 := by
      unfold cmpC
      rw [if_neg (by decide), if_neg (by decide)]
      split
      · omega
      · split
        · decide
        · rw [if_neg (by decide), if_pos (by decide)]; decide
    simp [this]
  refine ⟨rfl, hs, hi, (fun h => by cases h), fun _ => ?_⟩
  show Bel.upd Bel.z8 (s : Int) 1 _ s = 1 ∧ Bel.upd Bel.z8 (s : Int) i _ s = i
  unfold Bel.upd
  exact ⟨if_pos e, if_pos e⟩
/-- What is believed of all, as claims. -/
def lsC (sel : Nat → Bool) (p q : Nat → Int) : Nat → List Cl
  | 0 => []
  | k + 1 => if sel k then lsC sel p q k ++ [⟨(k : Int), p k, q k⟩] else lsC sel p q k
theorem lsC_cells (sel : Nat → Bool) (p q : Nat → Int) : ∀ k, Bel.listC sel p q k = Rum.cellsC (lsC sel p q k) ∧ Bel.cntC sel k = (lsC sel p q k).length
  | 0 => ⟨rfl, rfl⟩
  | k + 1 => by
    obtain ⟨h1, h2⟩ := lsC_cells sel p q k
    unfold Bel.listC Bel.cntC lsC
    split
    · refine ⟨?_, by rw [List.length_append, h2]; rfl⟩
      rw [Rum.cellsC_append, h1]
      rfl
    · exact ⟨h1, h2⟩
theorem lsC_mem (sel : Nat → Bool) (p q : Nat → Int) : ∀ k c, c ∈ lsC sel p q k → ∃ j, j < k ∧ c = ⟨(j : Int), p j, q j⟩
  | 0, c, h => by simp [lsC] at h
  | k + 1, c, h => by
    unfold lsC at h
    split at h
    · rcases List.mem_append.1 h with h1 | h1
      · obtain ⟨j, h2, h3⟩ := lsC_mem sel p q k c h1
        exact ⟨j, by omega, h3⟩
      · obtain rfl : c = _ := by simpa using h1
        exact ⟨k, by omega, rfl⟩
    · obtain ⟨j, h2, h3⟩ := lsC_mem sel p q k c h
      exact ⟨j, by omega, h3⟩
theorem listed_own {w w' : World} {sel : Nat → Bool} {p q : Nat → Int} {e : Ending} (h : Bel.Listed w sel p q e w') : ∃ A n c, e = .returned (.slice A n c) ∧ Rum.OwnC w' w.heap.size (.slice A n c) n (lsC sel p q 8) ∧ n ≤ c ∧ c ≤ 9223372036854775807 ∧ Below w.heap.size w w' := by
  obtain ⟨v, rfl, h1, h2⟩ := h
  obtain ⟨e1, e2⟩ := lsC_cells sel p q 8
  rw [e1, e2] at h1
  obtain ⟨A, c, rfl, k1, k2, _⟩ := Rowz.form h1
  exact ⟨A, _, c, rfl, ⟨rfl, h1⟩, k1, k2, h2⟩
end Go.Proofs.Ythndjhocmpelcaa.Swi
