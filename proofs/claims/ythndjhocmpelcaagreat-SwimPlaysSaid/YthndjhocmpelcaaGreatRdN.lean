/- Chapter 6: who is not known is not alive; the detector beside the document's. Conditions: they lie in blocks apart. -/
import Derived.Test.YthndjhocmpelcaaGreatRdM
import Derived.Test.YthndjhocmpelcaaGreatGn
namespace Go.Proofs.YthndjhocmpelcaaGreat.Swi
open Go.RowKit Kit Hth Tri3
set_option linter.unusedVariables false
/-- Of whom nothing is said, no incarnation is said. -/
def Zok (d : Dt) : Prop := ∀ k : Nat, k < 8 → d.q k = 0 → d.p k = 0
theorem Zok.of {d d' : Dt} (h : Zok d) (hp : d'.p = d.p) (hq : d'.q = d.q) : Zok d' := fun k hk => by rw [hp, hq]; exact h k hk
theorem Zok.heard {d : Dt} (h : Zok d) (c : Cl) : Zok (dHeard d c) := fun k hk h0 => by
  unfold dHeard Bel.upd at h0 ⊢
  simp only at h0 ⊢
  by_cases e : Bel.hearB d.p d.q c.n c.i c.h = true ∧ c.n = (k : Int)
  · rw [if_pos e] at h0
    have h1 := e.1
    unfold Bel.hearB at h1
    rw [h0] at h1
    simp at h1
  · rw [if_neg e] at h0 ⊢
    exact h k hk h0
theorem Zok.says {d : Dt} (h : Zok d) (x : Int) : Zok (dSays d x) := (h.heard ⟨d.self, d.inc, x⟩).of rfl rfl
theorem Zok.ref {d : Dt} (h : Zok d) (i x : Int) : Zok (dRef d i x) := by
  unfold dRef
  split
  · split
    · exact h.of rfl rfl
    · exact Zok.says (h.of rfl rfl : Zok { d with inc := i + 1 }) 1
  · exact h
theorem Zok.hears {d : Dt} (h : Zok d) (c : Cl) : Zok (dHears d c) := by
  unfold dHears
  split
  · exact h.ref _ _
  · split
    · exact (h.heard c).of rfl rfl
    · exact h
theorem Zok.meetL : ∀ (l : List Cl) {d : Dt} (h : Zok d) (n : Nat), Zok (meetL d n l).1
  | [], d, h, n => h
  | a :: l, d, h, n => by
    rw [Swi.meetL]
    split
    · exact Zok.meetL l (h.hears a) _
    · exact Zok.meetL l h _
theorem Zok.meets {d : Dt} (h : Zok d) (f : Int) (l : List Cl) : Zok (dMeets d f l) := by
  unfold dMeets
  simp only
  split
  · exact Zok.meetL l h 0
  · exact (Zok.meetL l h 0).hears _
theorem Zok.new (self inc : Int) : Zok (dNew self inc) := Zok.heard (d := d0 self inc) (fun _ _ _ => rfl) _
theorem Zok.sent {d : Dt} (h : Zok d) : Zok (dSent d) := h.of rfl rfl
theorem Zok.askL : ∀ (l : List Int) (x : Dt × List Om), Zok x.1 → Zok (askL x l).1
  | [], x, h => h
  | a :: l, x, h => Zok.askL l (ask1 x a) h.sent
theorem Zok.d2 {d : Dt} (h : Zok d) : Zok (d2 d) := by
  unfold Swi.d2
  split
  · exact (h.hears _).of rfl rfl
  · exact h.of rfl rfl
theorem Zok.d100 {d : Dt} (h : Zok d) (id : Int) : Zok (d100 d id) := by
  unfold Swi.d100
  split
  · exact h.hears _
  · exact h
theorem Zok.dueS {ps : List Int} {dr : Int} {x : Dt × List Om} (h : Zok x.1) (id : Int) : Zok (dueS ps dr x id).1 := by
  unfold Swi.dueS
  split
  · exact Zok.askL _ _ h
  · split
    · exact h.d2
    · exact h.d100 id
theorem Zok.dueA {ps : List Int} {dr : Int} : ∀ (l : List Int) {x : Dt × List Om} (h : Zok x.1), Zok (dueA ps dr x l).1
  | [], x, h => h
  | a :: l, x, h => Zok.dueA l (h.dueS (ps := ps) (dr := dr) a)
theorem Zok.tick {ps : List Int} {dr : Int} {d : Dt} (h : Zok d) : Zok (dTick ps dr d).1 := by
  have hd : Zok (dDue ps dr d).1 := Zok.dueA _ (h.of rfl rfl)
  unfold dTick
  split
  · exact h.of rfl rfl
  · unfold tickA
    split
    · exact hd
    · split <;> exact hd.of rfl rfl
theorem Zok.ans {d : Dt} (h : Zok d) (k s fo : Int) : Zok (dAns d k s fo) := by
  unfold dAns
  split
  · exact h.of rfl rfl
  · exact h
theorem Zok.handle {d : Dt} (h : Zok d) (k f t s fo ab : Int) (ls : List Cl) : Zok (dHandle d k f t s fo ab ls) := by
  have hm := (h.meets f ls).ans k s fo
  unfold dHandle
  split
  · exact h
  · split
    · exact hm
    · exact hm.sent
theorem Zok.hear {d : Dt} (h : Zok d) (c : Cl) : Zok (dHear d c) := by
  unfold dHear
  split
  · exact h.hears c
  · exact h
theorem Zok.leave {d : Dt} (h : Zok d) : Zok (dLeave d) := by
  unfold dLeave
  split
  · exact h
  · exact Zok.says (d := { d with left := true }) (h.of rfl rfl) 4
theorem now_ask : ∀ (l : List Int) (x : Dt × List Om), (askL x l).1.now = x.1.now
  | [], x => rfl
  | a :: l, x => now_ask l (ask1 x a)
theorem now_due (ps : List Int) (dr : Int) : ∀ (l : List Int) (x : Dt × List Om), (dueA ps dr x l).1.now = x.1.now
  | [], x => rfl
  | a :: l, x => by
    refine (now_due ps dr l (dueS ps dr x a)).trans ?_
    unfold dueS
    split
    · exact now_ask _ _
    · split
      · show (d2 x.1).now = x.1.now
        unfold d2
        split
        · exact (Kp.hears _ _).now
        · rfl
      · show (d100 x.1 a).now = x.1.now
        unfold d100
        split
        · exact (Kp.hears _ _).now
        · rfl
theorem now_tick (ps : List Int) (dr : Int) (d : Dt) : (dTick ps dr d).1.now = d.now + 1 := by
  have h : (dDue ps dr d).1.now = d.now + 1 := now_due ps dr _ _
  unfold dTick
  split
  · rfl
  · unfold tickA
    split
    · exact h
    · split <;> exact h
theorem now_leave (d : Dt) : (dLeave d).now = d.now := by
  unfold dLeave
  split <;> rfl
theorem now_handle (d : Dt) (k f t s fo ab : Int) (ls : List Cl) : (dHandle d k f t s fo ab ls).now = d.now := by
  have h2 : (dAns (dMeets d f ls) k s fo).now = d.now := by rw [(ans_q _ k s fo).2.2.2.1, (Kp.meets d f ls).now]
  unfold dHandle
  split
  · rfl
  · split
    · exact h2
    · exact h2
/-- What a call of the law leaves. -/
structure Nz (d2 : Dt) (j : Nat) : Prop where
  vok : Vok d2
  zok : Zok d2
  now : d2.now ≤ (j : Int) + 1
theorem lsC_congr {s1 s2 : Nat → Bool} {p q : Nat → Int} : ∀ k, (∀ j, j < k → s1 j = s2 j) → lsC s1 p q k = lsC s2 p q k
  | 0, _ => rfl
  | k + 1, h => by
    unfold lsC
    rw [h k (by omega), lsC_congr k (fun j hj => h j (by omega))]
theorem lsC_all {d : Dt} (h : Zok d) : lsC (Rvw.sel d.p d.q) d.p d.q 8 = lsC (fun k => !(d.q k == 0)) d.p d.q 8 :=
  lsC_congr 8 fun j hj => by
    unfold Rvw.sel
    by_cases e : d.q j = 0
    · have e2 := h j hj e
      simp [e, e2]
    · simp [e]
end Go.Proofs.YthndjhocmpelcaaGreat.Swi
namespace Go.Proofs.YthndjhocmpelcaaGreat.Rd
open Go.RowKit Kit Tri3 Swi
open Go.Proofs.YthndjhocmpelcaaGreat.Hth (cmpI cmpC nodeB mayC)
/-- A detector at ga in the blocks S, the document's at gb in the blocks R, apart; nothing ahead of B was written since w0. -/
structure Duo (B : Nat) (w0 w : World) (S : Nat → Prop) (ga : Nat) (d : Dt) (R : Nat → Prop) (gb : Nat) (e : Dt) : Prop where
  a : Det w S ga d
  b : DetD w R gb e
  sa : ∀ k, S k → B ≤ k
  sb : ∀ k, R k → B ≤ k
  ap : ∀ k, S k → ¬ R k
  bw : Below B w0 w
section
variable {B ga gb : Nat} {w0 w w2 : World} {S R : Nat → Prop} {d e d' : Dt}
theorem Duo.below (h : Duo B w0 w S ga d R gb e) (hb : Below w.heap.size w w2) (hB : B ≤ w.heap.size) : Duo B w0 w2 S ga d R gb e :=
  ⟨h.a.below hb, h.b.below hb, h.sa, h.sb, h.ap, h.bw.trans (hb.mono hB)⟩
theorem Duo.size (h : Duo B w0 w S ga d R gb e) (hB : B ≤ w0.heap.size) : B ≤ w.heap.size := Nat.le_trans hB h.bw.size
theorem Duo.turnA (h : Duo B w0 w S ga d R gb e) (t : DTurn w w2 S ga d') (hB : B ≤ w0.heap.size) : ∃ S', Hid (Duo B w0 w2 S' ga d' R gb e) ∧ Hid (∀ k, S' k → S k ∨ w.heap.size ≤ k) ∧ Hid (Rum.Wr w w2 S) := by
  obtain ⟨S', h1, h2, h3⟩ := t
  have hs := h.size hB
  exact ⟨S', Hid.mk_ ⟨h1, h.b.wr h3 (fun k hk hs => h.ap k hs hk), fun k hk => (h2 k hk).elim (h.sa k) (fun g => Nat.le_trans hs g), h.sb, fun k hk hr => (h2 k hk).elim (fun g => h.ap k g hr) (fun g => by have := h.b.blk k hr; omega), h.bw.trans (h3.below hs h.sa)⟩, Hid.mk_ h2, Hid.mk_ h3⟩
theorem Duo.turnB (h : Duo B w0 w S ga d R gb e) (t : RTurn w w2 R gb d') (hB : B ≤ w0.heap.size) : ∃ R', Hid (Duo B w0 w2 S ga d R' gb d') ∧ Hid (∀ k, R' k → R k ∨ w.heap.size ≤ k) ∧ Hid (Rum.Wr w w2 R) := by
  obtain ⟨R', h1, h2, h3⟩ := t
  have hs := h.size hB
  exact ⟨R', Hid.mk_ ⟨h.a.wr h3 (fun k hk hr => h.ap k hk hr), h1, h.sa, fun k hk => (h2 k hk).elim (h.sb k) (fun g => Nat.le_trans hs g), fun k hk hr => (h2 k hr).elim (fun g => h.ap k hk g) (fun g => by have := h.a.blk k hk; omega), h.bw.trans (h3.below hs h.sb)⟩, Hid.mk_ h2, Hid.mk_ h3⟩
end
theorem RTurnX.turn {w w' : World} {S T : Nat → Prop} {g : Nat} {d : Dt} (h : RTurnX w w' S g d T) : RTurn w w' S g d := by
  obtain ⟨S', h1, h2, h3, _⟩ := h
  exact ⟨S', h1, h2, h3⟩
/-- Both, as they are while the law goes on. -/
def Both (B : Nat) (w0 w : World) (ga gb : Nat) (d : Dt) : Prop := ∃ S R, Duo B w0 w S ga d R gb d
theorem Both.below {B ga gb : Nat} {w0 w w2 : World} {d : Dt} (h : Both B w0 w ga gb d) (hb : Below w.heap.size w w2) (hB : B ≤ w0.heap.size) : Both B w0 w2 ga gb d := by
  obtain ⟨S, R, h⟩ := h
  exact ⟨S, R, h.below hb (h.size hB)⟩
theorem both_new {w0 w w1 w2 : World} {S R : Nat → Prop} {ga gb : Nat} {d : Dt} (b0 : Below w0.heap.size w0 w) (D1 : Det w1 S ga d) (h1 : ∀ k, S k → w.heap.size ≤ k) (b1 : Below w.heap.size w w1) (D2 : DetD w2 R gb d) (h2 : ∀ k, R k → w1.heap.size ≤ k) (b2 : Below w1.heap.size w1 w2) : Both w0.heap.size w0 w2 ga gb d := by
  have z1 := b0.trans (b1.mono b0.size)
  exact ⟨S, R, D1.below b2, D2, fun k hk => Nat.le_trans b0.size (h1 k hk), fun k hk => Nat.le_trans z1.size (h2 k hk), fun k hk hr => by have := D1.blk k hk; have := h2 k hr; omega, z1.trans (b2.mono z1.size)⟩
theorem det_c {w : World} {S : Nat → Prop} {g : Nat} {d : Dt} (h : DetD w S g d) : ∃ gv, w.cell? ⟨g, 1, none⟩ = some (.int .i64 d.inc) ∧ w.cell? ⟨g, 2, none⟩ = some (.int .i64 d.now) ∧ w.cell? ⟨g, 5, none⟩ = some (.bool d.over) ∧ w.cell? ⟨g, 7, none⟩ = some (.pointer (some ⟨gv, 0, none⟩)) ∧ Hid (Rvw.Vw w gv d.p d.q) := by
  obtain ⟨gv, gq, go, gc, A, B, n, c, C, X⟩ := h
  exact ⟨gv, X.dcs.cell 1, X.dcs.cell 2, X.dcs.cell 5, X.dcs.cell 7, Hid.mk_ X.vw⟩
end Go.Proofs.YthndjhocmpelcaaGreat.Rd
