/- The document's detector: how it lies. Conditions: as each theorem says. -/
import Derived.Test.YthndjhocmpelcaaGreatGl
import Derived.Test.YthndjhocmpelcaaGreatGt
import Derived.Test.YthndjhocmpelcaaGreatRfu
import Derived.Test.YthndjhocmpelcaaGreatRpS
import Derived.Test.YthndjhocmpelcaaGreatHpU
import Derived.Test.YthndjhocmpelcaaGreatGs
namespace Go.Proofs.YthndjhocmpelcaaGreat.Rd
open Go.RowKit Kit Hth Tri3 Swi
set_option linter.unusedVariables false
/-- The cells of the document's detector. -/
@[reducible] def rc (d : Dt) (gv gq go gc : Nat) : Array Value := #[.int .i64 d.self, .int .i64 d.inc, .int .i64 d.now, .int .i64 d.seq, .int .i64 d.asked, .bool d.over, .bool d.left, .pointer (some ⟨gv, 0, none⟩), .pointer (some ⟨gq, 0, none⟩), .pointer (some ⟨go, 0, none⟩), .pointer (some ⟨gc, 0, none⟩)]
def RC (w : World) (g : Nat) (d : Dt) (gv gq go gc : Nat) : Prop := w.heap[g]? = some (.cells (rc d gv gq go gc) 63 (0, 0))
theorem RC.cell {w : World} {g gv gq go gc : Nat} {d : Dt} (h : RC w g d gv gq go gc) (k : Nat) : w.cell? ⟨g, k, none⟩ = (rc d gv gq go gc)[k]? := cell_of_row w g k _ 63 (0, 0) h
theorem RC.fr {w : World} {g gv gq go gc : Nat} {d : Dt} (h : RC w g d gv gq go gc) (k : Nat) : w.frozen? ⟨g, k, none⟩ = false := frozen_of_row w g k _ 63 h
theorem RC.lt {w : World} {g gv gq go gc : Nat} {d : Dt} (h : RC w g d gv gq go gc) : g < w.heap.size := (Array.getElem?_eq_some_iff.1 h).1
theorem RC.wr {w w' : World} {S : Nat → Prop} {g gv gq go gc : Nat} {d : Dt} (h : RC w g d gv gq go gc) (hw : Rum.Wr w w' S) (hn : ¬ S g) : RC w' g d gv gq go gc := (hw.block g h.lt hn).trans h
theorem RC.set {w : World} {g gv gq go gc : Nat} {d : Dt} (h : RC w g d gv gq go gc) (k : Nat) (v : Value) (d' : Dt) (hd : (rc d gv gq go gc).setIfInBounds k v = rc d' gv gq go gc) : RC (w.setCell ⟨g, k, none⟩ v) g d' gv gq go gc := by
  have := heap_setCell_same w g k _ 63 v h
  rwa [hd] at this
/-- The document's detector lies at g, its parts apart from each other; all of it in the blocks S. -/
structure DetR (w : World) (S : Nat → Prop) (g : Nat) (d : Dt) (gv gq go gc : Nat) (A B : Option Addr) (n c : Nat) (C : Option Addr) : Prop where
  ok : d.Ok
  dcs : RC w g d gv gq go gc
  vw : Rvw.Vw w gv d.p d.q
  qu : ∃ R, Rum.RQ w gq 3 A R ∧ R.Perm d.L
  st : Rum.St d.L
  lt : Rum.Lt 3 d.L
  od : Prb.Odr w go d.self B n c d.zs
  zl : d.zs.length ≤ 100
  ck : Wat.Ref w gc C d.M
  cst : Wat.St d.M
  blk : ∀ k, S k → k < w.heap.size
  sg : S g
  sv : S gv
  sq : ∀ k, Rum.Its gq A k → S k
  so : ∀ k, Prb.Its go B k → S k
  sc : ∀ k, Wat.Its gc C k → S k
  sep : ∃ col : Nat → Nat, col g = 0 ∧ col gv = 1 ∧ (∀ k, Rum.Its gq A k → col k = 2) ∧ (∀ k, Prb.Its go B k → col k = 3) ∧ (∀ k, Wat.Its gc C k → col k = 4)
def DetD (w : World) (S : Nat → Prop) (g : Nat) (d : Dt) : Prop := ∃ gv gq go gc A B n c C, DetR w S g d gv gq go gc A B n c C
/-- The document's detector at g is turned to d; nothing outside S is. -/
def RTurn (w w' : World) (S : Nat → Prop) (g : Nat) (d : Dt) : Prop := ∃ S', DetD w' S' g d ∧ (∀ k, S' k → S k ∨ w.heap.size ≤ k) ∧ Rum.Wr w w' S
section
variable {w w' : World} {S T : Nat → Prop} {g : Nat} {d : Dt} {gv gq go gc : Nat} {A B : Option Addr} {n c : Nat} {C : Option Addr}
theorem DetR.wr (h : DetR w S g d gv gq go gc A B n c C) (hw : Rum.Wr w w' T) (hd : ∀ k, S k → ¬ T k) : DetR w' S g d gv gq go gc A B n c C := by
  obtain ⟨R, hR, hp⟩ := h.qu
  exact ⟨h.ok, h.dcs.wr hw (hd g h.sg), (hw.block gv h.vw.lt (hd gv h.sv)).trans h.vw, ⟨R, hR.wr hw (fun k hk => hd k (h.sq k hk)), hp⟩, h.st, h.lt, h.od.wr (wrP' hw) (hd go (h.so go (.inl rfl))) (fun b off e => hd b (h.so b (.inr ⟨off, e⟩))), h.zl, h.ck.wr (wrW' hw) (fun k hk => hd k (h.sc k hk)), h.cst, fun k hk => Nat.lt_of_lt_of_le (h.blk k hk) hw.size, h.sg, h.sv, h.sq, h.so, h.sc, h.sep⟩
theorem DetR.below (h : DetR w S g d gv gq go gc A B n c C) (hb : Below w.heap.size w w') : DetR w' S g d gv gq go gc A B n c C := h.wr (Rum.Wr.of_below hb (fun _ => False)) (fun _ _ h => h)
end
theorem DetD.wr {w w' : World} {S T : Nat → Prop} {g : Nat} {d : Dt} (h : DetD w S g d) (hw : Rum.Wr w w' T) (hd : ∀ k, S k → ¬ T k) : DetD w' S g d := by
  obtain ⟨gv, gq, go, gc, A, B, n, c, C, h⟩ := h
  exact ⟨gv, gq, go, gc, A, B, n, c, C, h.wr hw hd⟩
theorem DetD.below {w w' : World} {S : Nat → Prop} {g : Nat} {d : Dt} (h : DetD w S g d) (hb : Below w.heap.size w w') : DetD w' S g d := h.wr (Rum.Wr.of_below hb (fun _ => False)) (fun _ _ h => h)
theorem DetD.blk {w : World} {S : Nat → Prop} {g : Nat} {d : Dt} (h : DetD w S g d) : ∀ k, S k → k < w.heap.size := by
  obtain ⟨gv, gq, go, gc, A, B, n, c, C, h⟩ := h
  exact h.blk
theorem RTurn.of_below {w w' : World} {S : Nat → Prop} {g : Nat} {d : Dt} (h : DetD w S g d) (hb : Below w.heap.size w w') : RTurn w w' S g d :=
  ⟨S, h.below hb, fun k hk => .inl hk, Rum.Wr.of_below hb _⟩
theorem RTurn.after {w w1 w2 : World} {S : Nat → Prop} {g : Nat} {d : Dt} (h : Rum.Wr w w1 S) {S1 : Nat → Prop} (hS : ∀ k, S1 k → S k ∨ w.heap.size ≤ k) (k : RTurn w1 w2 S1 g d) : RTurn w w2 S g d := by
  obtain ⟨S4, h4, k4, r4⟩ := k
  exact ⟨S4, h4, fun i hi => (k4 i hi).elim (hS i) (fun h1 => .inr (Nat.le_trans h.size h1)), h.then_ r4 hS⟩
theorem DetR.turnV {w w' : World} {S : Nat → Prop} {g gv gq go gc : Nat} {d d' : Dt} {A B C : Option Addr} {n c : Nat} (h : DetR w S g d gv gq go gc A B n c C) (hw : Rum.Wr w w' (fun k => k = gv)) (hv : Rvw.Vw w' gv d'.p d'.q)
    (e : d'.self = d.self ∧ d'.inc = d.inc ∧ d'.now = d.now ∧ d'.seq = d.seq ∧ d'.asked = d.asked ∧ d'.over = d.over ∧ d'.left = d.left ∧ d'.L = d.L ∧ d'.zs = d.zs ∧ d'.M = d.M) : DetR w' S g d' gv gq go gc A B n c C := by
  obtain ⟨e1, e2, e3, e4, e5, e6, e7, e8, e9, e10⟩ := e
  obtain ⟨col, c0, c1, c2, c3, c4⟩ := h.sep
  obtain ⟨R, hR, hp⟩ := h.qu
  refine ⟨⟨by rw [e1]; exact h.ok.self, by rw [e2]; exact h.ok.inc, by rw [e3]; exact h.ok.now, by rw [e4]; exact h.ok.seq, by rw [e5]; exact h.ok.asked⟩, ?_, hv, ⟨R, hR.wr hw (fun k hk e => by have := c2 k hk; rw [e] at this; omega), by rw [e8]; exact hp⟩, by rw [e8]; exact h.st, by rw [e8]; exact h.lt, ?_, by rw [e9]; exact h.zl, ?_, by rw [e10]; exact h.cst, fun k hk => Nat.lt_of_lt_of_le (h.blk k hk) hw.size, h.sg, h.sv, h.sq, h.so, h.sc, h.sep⟩
  · have := h.dcs.wr hw (fun e => by rw [e] at c0; omega)
    unfold RC rc at this ⊢
    rw [e1, e2, e3, e4, e5, e6, e7]
    exact this
  · rw [e9, e1]; exact h.od.wr (wrP' hw) (fun e => by have := c3 go (.inl rfl); rw [e] at this; omega) (fun b off eb e => by have := c3 b (.inr ⟨off, eb⟩); rw [e] at this; omega)
  · rw [e10]; exact h.ck.wr (wrW' hw) (fun k hk e => by have := c4 k hk; rw [e] at this; omega)
theorem DetR.turnD {w w' : World} {S : Nat → Prop} {g gv gq go gc : Nat} {d d' : Dt} {A B C : Option Addr} {n c : Nat} (h : DetR w S g d gv gq go gc A B n c C) (hw : Rum.Wr w w' (fun k => k = g)) (hv : RC w' g d' gv gq go gc) (ho : d'.Ok)
    (e : d'.self = d.self ∧ d'.p = d.p ∧ d'.q = d.q ∧ d'.L = d.L ∧ d'.zs = d.zs ∧ d'.M = d.M) : DetR w' S g d' gv gq go gc A B n c C := by
  obtain ⟨e1, e2, e3, e8, e9, e10⟩ := e
  obtain ⟨col, c0, c1, c2, c3, c4⟩ := h.sep
  obtain ⟨R, hR, hp⟩ := h.qu
  refine ⟨ho, hv, ?_, ⟨R, hR.wr hw (fun k hk e => by have := c2 k hk; rw [e] at this; omega), by rw [e8]; exact hp⟩, by rw [e8]; exact h.st, by rw [e8]; exact h.lt, ?_, by rw [e9]; exact h.zl, ?_, by rw [e10]; exact h.cst, fun k hk => Nat.lt_of_lt_of_le (h.blk k hk) hw.size, h.sg, h.sv, h.sq, h.so, h.sc, h.sep⟩
  · rw [e2, e3]; exact (hw.block gv h.vw.lt (fun e => by rw [e] at c1; omega)).trans h.vw
  · rw [e9, e1]; exact h.od.wr (wrP' hw) (fun e => by have := c3 go (.inl rfl); rw [e] at this; omega) (fun b off eb e => by have := c3 b (.inr ⟨off, eb⟩); rw [e] at this; omega)
  · rw [e10]; exact h.ck.wr (wrW' hw) (fun k hk e => by have := c4 k hk; rw [e] at this; omega)
end Go.Proofs.YthndjhocmpelcaaGreat.Rd
namespace Go.Proofs.YthndjhocmpelcaaGreat.Rd
open Go.RowKit Kit Hth Tri3 Swi
set_option linter.unusedVariables false
theorem DetR.turnQ {w w' : World} {S : Nat → Prop} {g gv gq go gc : Nat} {d : Dt} {A B C : Option Addr} {n c : Nat} {R L : List Rum.Tld} (h : DetR w S g d gv gq go gc A B n c C) (t : Rum.RTurn w w' gq 3 A R) (hp : R.Perm L) (hst : Rum.St L) (hlt : Rum.Lt 3 L) : ∃ A' S', DetR w' S' g { d with L := L } gv gq go gc A' B n c C ∧ (∀ k, S' k → S k ∨ w.heap.size ≤ k) ∧ Rum.Wr w w' S := by
  obtain ⟨A', k', f, hw⟩ := t
  obtain ⟨col, c0, c1, c2, c3, c4⟩ := h.sep
  have hold : ∀ k, S k → k < w.heap.size := h.blk
  refine ⟨A', fun k => S k ∨ Rum.Its gq A' k, ⟨⟨h.ok.self, h.ok.inc, h.ok.now, h.ok.seq, h.ok.asked⟩, ?_, ?_, ⟨R, k', hp⟩, hst, hlt, ?_, h.zl, ?_, h.cst, ?_, .inl h.sg, .inl h.sv, fun k hk => .inr hk, fun k hk => .inl (h.so k hk), fun k hk => .inl (h.sc k hk), ?_⟩, ?_, ?_⟩
  · exact h.dcs.wr hw (fun hk => by have := c2 g hk; omega)
  · exact (hw.block gv h.vw.lt (fun hk => by have := c2 gv hk; omega)).trans h.vw
  · exact h.od.wr (wrP' hw) (fun hk => by have := c2 go hk; have := c3 go (.inl rfl); omega) (fun b off eb hk => by have := c2 b hk; have := c3 b (.inr ⟨off, eb⟩); omega)
  · exact h.ck.wr (wrW' hw) (fun k hk hk2 => by have := c2 k hk2; have := c4 k hk; omega)
  · rintro k (hk | hk)
    · exact Nat.lt_of_lt_of_le (hold k hk) hw.size
    · exact (k'.its k hk).2
  · refine ⟨fun k => if w.heap.size ≤ k then 2 else col k, ?_, ?_, ?_, ?_, ?_⟩
    · have := hold g h.sg; simp only; rw [if_neg (by omega)]; exact c0
    · have := hold gv h.sv; simp only; rw [if_neg (by omega)]; exact c1
    · intro k hk
      rcases f.its gq k hk with h1 | h1
      · have := hold k (h.sq k h1); simp only; rw [if_neg (by omega)]; exact c2 k h1
      · simp only; rw [if_pos h1]
    · intro k hk; have := hold k (h.so k hk); simp only; rw [if_neg (by omega)]; exact c3 k hk
    · intro k hk; have := hold k (h.sc k hk); simp only; rw [if_neg (by omega)]; exact c4 k hk
  · rintro k (hk | hk)
    · exact .inl hk
    · rcases f.its gq k hk with h1 | h1
      · exact .inl (h.sq k h1)
      · exact .inr h1
  · exact hw.mono h.sq
theorem DetR.turnC {w w' : World} {S : Nat → Prop} {g gv gq go gc : Nat} {d : Dt} {A B C : Option Addr} {n c : Nat} {M : List Wat.Mom} (h : DetR w S g d gv gq go gc A B n c C) (t : Wat.RTurn w w' gc C M) (hst : Wat.St M) : ∃ C' S', DetR w' S' g { d with M := M } gv gq go gc A B n c C' ∧ (∀ k, S' k → S k ∨ w.heap.size ≤ k) ∧ Rum.Wr w w' S := by
  obtain ⟨C', k', f, hw0⟩ := t
  have hw := wrW hw0
  obtain ⟨col, c0, c1, c2, c3, c4⟩ := h.sep
  have hold : ∀ k, S k → k < w.heap.size := h.blk
  have cg : col gc = 4 := c4 gc (.inl rfl)
  obtain ⟨R, hR, hp⟩ := h.qu
  refine ⟨C', fun k => S k ∨ Wat.Its gc C' k, ⟨⟨h.ok.self, h.ok.inc, h.ok.now, h.ok.seq, h.ok.asked⟩, ?_, ?_, ⟨R, hR.wr hw (fun k hk hk2 => by have := c2 k hk; rw [hk2] at this; omega), hp⟩, h.st, h.lt, ?_, h.zl, k', hst, ?_, .inl h.sg, .inl h.sv, fun k hk => .inl (h.sq k hk), fun k hk => .inl (h.so k hk), fun k hk => .inr hk, ?_⟩, ?_, ?_⟩
  · exact h.dcs.wr hw (fun hk => by rw [hk] at c0; omega)
  · exact (hw.block gv h.vw.lt (fun hk => by rw [hk] at c1; omega)).trans h.vw
  · exact h.od.wr (wrP' hw) (fun hk => by have := c3 go (.inl rfl); rw [hk] at this; omega) (fun b off eb hk => by have := c3 b (.inr ⟨off, eb⟩); rw [hk] at this; omega)
  · rintro k (hk | hk)
    · exact Nat.lt_of_lt_of_le (hold k hk) hw.size
    · exact (k'.its k hk).2
  · refine ⟨fun k => if w.heap.size ≤ k then 4 else col k, ?_, ?_, ?_, ?_, ?_⟩
    · have := hold g h.sg; simp only; rw [if_neg (by omega)]; exact c0
    · have := hold gv h.sv; simp only; rw [if_neg (by omega)]; exact c1
    · intro k hk; have := hold k (h.sq k hk); simp only; rw [if_neg (by omega)]; exact c2 k hk
    · intro k hk; have := hold k (h.so k hk); simp only; rw [if_neg (by omega)]; exact c3 k hk
    · intro k hk
      rcases f k hk with h1 | h1
      · have := hold k (h.sc k h1); simp only; rw [if_neg (by omega)]; exact c4 k h1
      · simp only; rw [if_pos h1]
  · rintro k (hk | hk)
    · exact .inl hk
    · rcases f k hk with h1 | h1
      · exact .inl (h.sc k h1)
      · exact .inr h1
  · exact hw.mono (fun k hk => by rw [hk]; exact h.sc gc (.inl rfl))
end Go.Proofs.YthndjhocmpelcaaGreat.Rd
namespace Go.Proofs.YthndjhocmpelcaaGreat.Rd
open Go.RowKit Kit Tri3 Swi
open Go.Proofs.YthndjhocmpelcaaGreat.Hth (cmpI cmpC nodeB mayC)
set_option linter.unusedVariables false
theorem rturnWr {w w1 : World} {g : Nat} {o : Int} {A : Option Addr} {M : List Rum.Tld} (t : Rum.RTurn w w1 g o A M) : Rum.Wr w w1 (Rum.Its g A) := by
  obtain ⟨A', k, f, r⟩ := t
  exact r
theorem rturnWrC {w w1 : World} {g : Nat} {A : Option Addr} {M : List Wat.Mom} (t : Wat.RTurn w w1 g A M) : Rum.Wr w w1 (fun k => k = g) := by
  obtain ⟨A', k, f, r⟩ := t
  exact wrW r
theorem DetR.ne {w : World} {S : Nat → Prop} {g : Nat} {d : Dt} {gv gq go gc : Nat} {A B : Option Addr} {n c : Nat} {C : Option Addr} (h : DetR w S g d gv gq go gc A B n c C) : g ≠ gv ∧ ¬ Rum.Its gq A g := by
  obtain ⟨col, c0, c1, c2, c3, c4⟩ := h.sep
  exact ⟨fun e => by rw [← e] at c1; omega, fun e => by have := c2 g e; omega⟩
theorem DetR.gc {w : World} {S : Nat → Prop} {g : Nat} {d : Dt} {gv gq go gc : Nat} {A B : Option Addr} {n c : Nat} {C : Option Addr} (h : DetR w S g d gv gq go gc A B n c C) : ¬ g = gc := by
  obtain ⟨col, c0, c1, c2, c3, c4⟩ := h.sep
  exact fun e => by have := c4 gc (.inl rfl); rw [← e] at this; omega
theorem DetR.heard {w w' : World} {S : Nat → Prop} {g gv gq go gc : Nat} {d : Dt} {A B C : Option Addr} {n c : Nat} (h : DetR w S g d gv gq go gc A B n c C) (x : Cl) (hv : Rvw.Vw w' gv (Bel.upd d.p x.n x.i (Bel.hearB d.p d.q x.n x.i x.h)) (Bel.upd d.q x.n x.h (Bel.hearB d.p d.q x.n x.i x.h))) (hg : w.grownBy w' (some gv)) :
    DetR w' S g (dHeard d x) gv gq go gc A B n c C :=
  h.turnV (Rum.Wr.of_gb hg) hv ⟨rfl, rfl, rfl, rfl, rfl, rfl, rfl, rfl, rfl, rfl⟩
set_option maxRecDepth 100000 in
set_option maxHeartbeats 8000000 in
theorem hearN (w : World) (S : Nat → Prop) (g : Nat) (d : Dt) (c : Cl) (hD : Hid (DetD w S g d)) (hm : Hid (true = mayC c.n c.i c.h)) (hs : ¬ c.n = d.self) (d' : Dt) (hd : Hid (d' = dHears d c)) :
    Calls Tryz.prog 39 #[.pointer (some ⟨g, 0, none⟩), .agg #[.int .i64 c.n, .int .i64 c.i, .int .i64 c.h]] w fun e w' => e = .returned (.int .i64 0) ∧ Hid (RTurn w w' S g d') := by
  obtain ⟨gv, gq, go, gc, A, B, n, cc, C, X⟩ := hD.out
  have al := Hid.mk_ ((Below.refl w.heap.size w).alloc (Nat.le_refl _) (.cells #[.int .i64 c.n, .int .i64 c.i, .int .i64 c.h] 30))
  have bx := Hid.mk_ (Rum.Box3.made w c.n c.i c.h)
  have NS := Hid.mk_ X.blk
  have X1 := Hid.mk_ (X.below al.out)
  clear X
  go_enter Tryz.func39, Tryz.ntmps39
  go_upto_region 1 with fail
  obtain ⟨z, hz⟩ : ∃ z, z = w.heap.size := ⟨_, rfl⟩
  have HZ := Hid.mk_ hz
  rw [← hz] at bx ⊢
  have NZ : Hid (∀ k, S k → k < z) := Hid.mk_ (fun k hk => by have := NS.out k hk; omega)
  clear hz
  generalize w.alloc (.cells #[.int .i64 c.n, .int .i64 c.i, .int .i64 c.h] 30) = w1 at *
  have c0 : w1.cell? ⟨g, 0, none⟩ = some (.int .i64 d.self) := X1.out.dcs.cell 0
  obtain ⟨x0, x1, x2, _, _, _⟩ := bx.out
  have lt1 := X1.out.dcs.lt
  have lt2 := bx.out.lt
  go_region
  have dr : Below w1.heap.size w1 w1.drew := (Below.refl _ _).drew
  have X2 := Hid.mk_ (X1.out.below dr)
  have BQ2 := Hid.mk_ (box3k bx.out dr)
  have B2 := Hid.mk_ (al.out.drew)
  clear c0 x0 x1 x2 lt1 lt2 X1 bx al dr
  generalize w1.drew = w2 at *
  have hsb : (c.n == d.self) = false := by simp [hs]
  have ed : d' = if Bel.hearB d.p d.q c.n c.i c.h then { dHeard d c with L := Rum.putQ c d.L, M := if c.h = 2 then Wat.setLq (100 + c.n) (d.now + 6) d.M else Wat.without (100 + c.n) d.M } else d := by rw [hd.out]; unfold dHears; rw [if_neg hs]
  have HED := Hid.mk_ ed
  clear hd ed hs
  have c2 : w2.cell? ⟨g, 7, none⟩ = some (.pointer (some ⟨gv, 0, none⟩)) := X2.out.dcs.cell 7
  obtain ⟨x0, x1, x2, _, _, _⟩ := BQ2.out
  obtain ⟨hb, hhb⟩ : ∃ hb, hb = Bel.hearB d.p d.q c.n c.i c.h := ⟨_, rfl⟩
  have HHB := Hid.mk_ hhb
  clear hhb
  have NG : Hid (¬ z = gv) := Hid.mk_ (fun e => by have := NZ.out gv X2.out.sv; omega)
  have hcon : Calls Tryz.prog 34 #[.pointer (some ⟨gv, 0, none⟩), .agg #[.int .i64 c.n, .int .i64 c.i, .int .i64 c.h]] w2.drew fun e w' => e = .returned (.bool hb) ∧ Hid (Rvw.Vw w' gv (Bel.upd d.p c.n c.i (Bel.hearB d.p d.q c.n c.i c.h)) (Bel.upd d.q c.n c.h (Bel.hearB d.p d.q c.n c.i c.h))) ∧ Hid (w2.drew.grownBy w' (some gv)) := by
    refine (Rvw.hear0 d.p d.q gv c.n c.i c.h w2.drew (X2.out.below (Below.refl _ _).drew).vw).mono ?_
    rintro e w' ⟨rfl, h1, h2⟩
    exact ⟨by rw [HHB.out], Hid.mk_ h1, Hid.mk_ h2⟩
  go_upto_region 12 with fail
  go_region_held3 (fun w' => w'.cell? ⟨g, 7, none⟩ = some (.pointer (some ⟨gv, 0, none⟩)) ∧ w'.cell? ⟨z, 0, none⟩ = some (.int .i64 c.n) ∧ w'.cell? ⟨z, 1, none⟩ = some (.int .i64 c.i) ∧ w'.cell? ⟨z, 2, none⟩ = some (.int .i64 c.h)) (first | exact ⟨by assumption, by assumption, by assumption, by assumption⟩ | go_keep) (first
    | (go_at_call 34; refine hcon.mono ?_; rintro e w3 ⟨rfl, hv3, hg3⟩; have r3 := Rum.Wr.of_gb hg3.out; have s2 := r3.cell (by exact c2) X2.out.ne.1; have s3 := r3.cell (by exact x0) NG.out; have s4 := r3.cell (by exact x1) NG.out; have s5 := r3.cell (by exact x2) NG.out)
    | fail)
  have dr : Below w2.heap.size w2 w2.drew := (Below.refl _ _).drew
  have X3 := Hid.mk_ ((X2.out.below dr).heard c hv3.out hg3.out)
  have R3 : Hid (Rum.Wr w w3 S) := Hid.mk_ (((Rum.Wr.of_below B2.out S).then_ (Rum.Wr.of_below dr (fun _ => False)) (fun _ h => h.elim)).then_ r3 (fun i hi => .inl (by rw [hi]; exact X2.out.sv)))
  have BQ3 := Hid.mk_ (box3w (box3k BQ2.out dr) r3 NG.out)
  clear c2 x0 x1 x2 s2 s3 s4 s5 X2 BQ2 B2 hv3 hg3 r3 dr hcon
  cases hb with
  | false =>
    have ed : d' = d := by rw [HED.out, ← HHB.out]; rfl
    have ex : dHeard d c = d := by unfold dHeard; rw [← HHB.out, Bel.upd_false, Bel.upd_false]
    subst ed
    go_wp2_with fail
    go_ret
    have x3 := X3.out
    rw [ex] at x3
    exact ⟨rfl, Hid.mk_ ⟨S, ⟨gv, gq, go, gc, A, B, n, cc, C, x3⟩, fun k hk => .inl hk, R3.out⟩⟩
  | true =>
    have ed : d' = { dHeard d c with L := Rum.putQ c d.L, M := if c.h = 2 then Wat.setLq (100 + c.n) (d.now + 6) d.M else Wat.without (100 + c.n) d.M } := by rw [HED.out, ← HHB.out]; rfl
    clear HED HHB
    have HED := Hid.mk_ ed
    clear ed
    obtain ⟨x0, x1, x2, _, _, _⟩ := BQ3.out
    have c3 : w3.cell? ⟨g, 8, none⟩ = some (.pointer (some ⟨gq, 0, none⟩)) := X3.out.dcs.cell 8
    obtain ⟨R0, qR, hp0⟩ := X3.out.qu
    have QD : Hid (Rum.RQ w3 gq 3 A R0) := Hid.mk_ qR
    have HP0 : Hid (R0.Perm d.L) := Hid.mk_ hp0
    have HST : Hid (Rum.St d.L) := Hid.mk_ X3.out.st
    have HLT : Hid (Rum.Lt 3 d.L) := Hid.mk_ X3.out.lt
    clear qR hp0
    obtain ⟨M, hM⟩ : ∃ M, M = Rum.putQ c d.L := ⟨_, rfl⟩
    have HM := Hid.mk_ hM
    clear hM
    have NQ : Hid (¬ Rum.Its gq A z) := Hid.mk_ (fun e => by have := NZ.out z (X3.out.sq z e); omega)
    go_upto_region 14 with fail
    go_region_held3 (fun w' => w'.cell? ⟨g, 8, none⟩ = some (.pointer (some ⟨gq, 0, none⟩)) ∧ w'.cell? ⟨z, 0, none⟩ = some (.int .i64 c.n) ∧ w'.cell? ⟨z, 1, none⟩ = some (.int .i64 c.i) ∧ w'.cell? ⟨z, 2, none⟩ = some (.int .i64 c.h)) (first | exact ⟨by assumption, by assumption, by assumption, by assumption⟩ | go_keep) (first
      | (go_at_call 41; refine (Rum.rput w3.drew gq 3 A R0 d.L c (by exact Hid.mk_ (QD.out.below (Below.refl _ _).drew)) HP0 HST _ (Hid.mk_ rfl) M HM).mono ?_; rintro e w4 ⟨rfl, R4', p4, t4⟩; have r4 := rturnWr t4.out; have s2 := r4.cell (by exact c3) X3.out.ne.2; have s3 := r4.cell (by exact x0) NQ.out; have s4 := r4.cell (by exact x1) NQ.out; have s5 := r4.cell (by exact x2) NQ.out)
      | fail)
    have dr : Below w3.heap.size w3 w3.drew := (Below.refl _ _).drew
    obtain ⟨A4, S4, x4, hS4, rS4⟩ := (X3.out.below dr).turnQ t4.out p4.out (by rw [HM.out]; exact HST.out.putQ c) (by rw [HM.out]; exact HLT.out.putQ (by decide) c)
    have X4 := Hid.mk_ x4
    have R4 : Hid (Rum.Wr w w4 S) := Hid.mk_ ((R3.out.then_ (Rum.Wr.of_below dr (fun _ => False)) (fun _ h => h.elim)).then_ rS4 (fun i hi => .inl hi))
    have BQ4 := Hid.mk_ (box3w (box3k BQ3.out dr) r4 NQ.out)
    have NZ4 : Hid (∀ k, S4 k → ¬ k = z) := Hid.mk_ (fun k hk e => by
      subst e
      rcases hS4 k hk with h1 | h1
      · have := NZ.out k h1; omega
      · have := (box3k BQ3.out dr).lt; omega)
    have HS4 : Hid (∀ k, S4 k → S k ∨ w.heap.size ≤ k) := Hid.mk_ (fun k hk => by
      rcases hS4 k hk with h1 | h1
      · exact .inl h1
      · have := R3.out.size; have := dr.size; exact .inr (by omega))
    clear c3 x0 x1 x2 s2 s3 s4 s5 X3 BQ3 R3 x4 hS4 rS4 t4 r4 dr QD NQ
    obtain ⟨x0, x1, x2, _, _, _⟩ := BQ4.out
    have c5 : w4.cell? ⟨g, 10, none⟩ = some (.pointer (some ⟨gc, 0, none⟩)) := X4.out.dcs.cell 10
    have c6 : w4.cell? ⟨g, 2, none⟩ = some (.int .i64 d.now) := X4.out.dcs.cell 2
    have CK : Hid (Wat.Ref w4 gc C d.M) := Hid.mk_ X4.out.ck
    have CST := Hid.mk_ X4.out.cst
    have HOK : Hid (Wat.okM (100 + c.n) (d.now + 6) = true) := Hid.mk_ (by have h1 := may_bounds hm.out; have h2 := X4.out.ok.now; have h3 : 0 ≤ d.now ∧ d.now ≤ 1000000 := h2; rw [Wat.okM_iff]; omega)
    have NC : Hid (¬ Wat.Its gc C z) := Hid.mk_ (fun e => NZ4.out z (X4.out.sc z e) rfl)
    have hn8 := may_bounds hm.out
    have hnw := X4.out.ok.now
    have hw1 : IntKind.i64.wrap (100 + c.n) = 100 + c.n := IntWalk.i64_in _ (by omega)
    have hw2 : IntKind.i64.wrap (d.now + 6) = d.now + 6 := IntWalk.i64_in _ (by have : 0 ≤ d.now ∧ d.now ≤ 1000000 := hnw; omega)
    clear hn8 hnw
    obtain ⟨MC, hMC⟩ : ∃ MC, MC = if c.h = 2 then Wat.setLq (100 + c.n) (d.now + 6) d.M else Wat.without (100 + c.n) d.M := ⟨_, rfl⟩
    have HMC := Hid.mk_ hMC
    clear hMC
    by_cases h2 : c.h = 2
    · have h2b : (c.h == 2) = true := by simp [h2]
      have HMC3 : Hid (MC = Wat.setL (100 + c.n) (d.now + 6) d.M) := Hid.mk_ (by rw [HMC.out, if_pos h2, Wat.setLq_ok HOK.out])
      have HS5 : Wat.St MC := by rw [HMC3.out]; exact CST.out.setL HOK.out
      have HSM := Hid.mk_ HS5
      clear HS5
      go_upto_region 16 with fail
      go_region_held3 (fun w' => w'.cell? ⟨g, 10, none⟩ = some (.pointer (some ⟨gc, 0, none⟩)) ∧ w'.cell? ⟨g, 2, none⟩ = some (.int .i64 d.now) ∧ w'.cell? ⟨z, 0, none⟩ = some (.int .i64 c.n)) (first | exact ⟨by assumption, by assumption, by assumption⟩ | go_keep) (first
        | (go_at_call 57; refine (Wat.rset_yes w4.drew gc C d.M (100 + c.n) (d.now + 6) (by exact Hid.mk_ (CK.out.below (Below.refl _ _).drew)) CST HOK.out MC HMC3).mono ?_; rintro e w5 ⟨rfl, t5⟩; have r5 := rturnWrC t5.out; have s2 := r5.cell (by exact c5) X4.out.gc; have s3 := r5.cell (by exact c6) X4.out.gc; have s4 := r5.cell (by exact x0) (fun e => NC.out (.inl e)))
        | fail)
      go_wp2_with fail
      go_ret
      have dr : Below w4.heap.size w4 w4.drew := (Below.refl _ _).drew
      obtain ⟨C5, S5, x5, hS5, rS5⟩ := (X4.out.below dr).turnC t5.out HSM.out
      refine ⟨rfl, Hid.mk_ ?_⟩
      rw [HED.out, ← HMC.out, ← HM.out]
      exact RTurn.after R4.out HS4.out ⟨S5, ⟨gv, gq, go, gc, A4, B, n, cc, C5, x5⟩, fun k hk => (hS5 k hk).elim .inl (fun h => .inr (Nat.le_trans dr.size h)), (Rum.Wr.of_below dr S4).then_ rS5 (fun i hi => .inl hi)⟩
    · have h2b : (c.h == 2) = false := by simp [h2]
      have HMC2 : Hid (MC = Wat.without (100 + c.n) d.M) := Hid.mk_ (by rw [HMC.out, if_neg h2])
      have HSM : Hid (Wat.St MC) := Hid.mk_ (by rw [HMC2.out]; exact CST.out.without _)
      go_upto_region 17 with fail
      go_region_held3 (fun w' => w'.cell? ⟨g, 10, none⟩ = some (.pointer (some ⟨gc, 0, none⟩)) ∧ w'.cell? ⟨z, 0, none⟩ = some (.int .i64 c.n)) (first | exact ⟨by assumption, by assumption⟩ | go_keep) (first
        | (go_at_call 45; refine (Wat.rcut w4.drew gc C d.M (100 + c.n) (by exact Hid.mk_ (CK.out.below (Below.refl _ _).drew)) CST _ (Hid.mk_ rfl) MC HMC2).mono ?_; rintro e w5 ⟨rfl, t5⟩; have r5 := rturnWrC t5.out; have s2 := r5.cell (by exact c5) X4.out.gc; have s4 := r5.cell (by exact x0) (fun e => NC.out (.inl e)))
        | fail)
      go_wp2_with fail
      go_ret
      have dr : Below w4.heap.size w4 w4.drew := (Below.refl _ _).drew
      obtain ⟨C5, S5, x5, hS5, rS5⟩ := (X4.out.below dr).turnC t5.out HSM.out
      refine ⟨rfl, Hid.mk_ ?_⟩
      rw [HED.out, ← HMC.out, ← HM.out]
      exact RTurn.after R4.out HS4.out ⟨S5, ⟨gv, gq, go, gc, A4, B, n, cc, C5, x5⟩, fun k hk => (hS5 k hk).elim .inl (fun h => .inr (Nat.le_trans dr.size h)), (Rum.Wr.of_below dr S4).then_ rS5 (fun i hi => .inl hi)⟩
end Go.Proofs.YthndjhocmpelcaaGreat.Rd
