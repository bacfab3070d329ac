/- A detector, first part. Conditions: as each theorem says. -/
import Derived.Test.YthndjhocmpelcaaGreatGf
import Derived.Test.YthndjhocmpelcaaGreatGm
import Derived.Test.YthndjhocmpelcaaGreatGc
import Derived.Test.YthndjhocmpelcaaGreatGe
namespace Go.Proofs.YthndjhocmpelcaaGreat.Swi
open Go.RowKit Kit Hth Tri3
set_option linter.unusedVariables false
theorem Hid.mk_ {p : Prop} (h : p) : Hid p := h
/-- A detector, plain: its numbers; what is believed (p, q); what is to be told; whom to ask; what is waited for. -/
structure Dt where
  self : Int
  inc : Int
  now : Int
  seq : Int
  asked : Int
  over : Bool
  left : Bool
  p : Nat → Int
  q : Nat → Int
  L : List Rum.Tld
  zs : List Int
  M : List Wat.Mom
structure Dt.Ok (d : Dt) : Prop where
  self : 0 ≤ d.self ∧ d.self ≤ 7
  inc : 0 ≤ d.inc ∧ d.inc ≤ 1000000
  now : 0 ≤ d.now ∧ d.now ≤ 1000000
  seq : 0 ≤ d.seq ∧ d.seq ≤ 1000000
  asked : -1 ≤ d.asked ∧ d.asked ≤ 7
/-- The cells of a detector. -/
@[reducible] def dc (d : Dt) (gv gq go gc : Nat) : Array Value := #[.int .i64 d.self, .int .i64 d.inc, .pointer (some ⟨gv, 0, none⟩), .pointer (some ⟨gq, 0, none⟩), .pointer (some ⟨go, 0, none⟩), .pointer (some ⟨gc, 0, none⟩), .int .i64 d.now, .int .i64 d.seq, .int .i64 d.asked, .bool d.over, .bool d.left]
def DC (w : World) (g : Nat) (d : Dt) (gv gq go gc : Nat) : Prop := w.heap[g]? = some (.cells (dc d gv gq go gc) 78 (0, 0))
theorem DC.cell {w : World} {g gv gq go gc : Nat} {d : Dt} (h : DC w g d gv gq go gc) (k : Nat) : w.cell? ⟨g, k, none⟩ = (dc d gv gq go gc)[k]? := cell_of_row w g k _ 78 (0, 0) h
theorem DC.fr {w : World} {g gv gq go gc : Nat} {d : Dt} (h : DC w g d gv gq go gc) (k : Nat) : w.frozen? ⟨g, k, none⟩ = false := frozen_of_row w g k _ 78 h
theorem DC.lt {w : World} {g gv gq go gc : Nat} {d : Dt} (h : DC w g d gv gq go gc) : g < w.heap.size := (Array.getElem?_eq_some_iff.1 h).1
theorem DC.wr {w w' : World} {S : Nat → Prop} {g gv gq go gc : Nat} {d : Dt} (h : DC w g d gv gq go gc) (hw : Rum.Wr w w' S) (hn : ¬ S g) : DC w' g d gv gq go gc := (hw.block g h.lt hn).trans h
theorem DC.set {w : World} {g gv gq go gc : Nat} {d : Dt} (h : DC w g d gv gq go gc) (k : Nat) (v : Value) (d' : Dt) (hd : (dc d gv gq go gc).setIfInBounds k v = dc d' gv gq go gc) : DC (w.setCell ⟨g, k, none⟩ v) g d' gv gq go gc := by
  have := heap_setCell_same w g k _ 78 v h
  rwa [hd] at this
/-- A detector lies at g, its parts apart from each other; all of it in the blocks S. -/
structure DetX (w : World) (S : Nat → Prop) (g : Nat) (d : Dt) (gv gq go gc : Nat) (A B : Option Addr) (n c : Nat) (C : Option Addr) : Prop where
  ok : d.Ok
  dcs : DC w g d gv gq go gc
  vw : Bel.Vw w gv d.p d.q
  qu : Rum.Que w gq 3 A d.L
  od : Prb.Odr w go d.self B n c d.zs
  ck : Wat.Clk w gc C d.M
  blk : ∀ k, S k → k < w.heap.size
  sg : S g
  sv : S gv
  sq : ∀ k, Rum.Its gq A k → S k
  so : ∀ k, Prb.Its go B k → S k
  sc : ∀ k, Wat.Its gc C k → S k
  sep : ∃ col : Nat → Nat, col g = 0 ∧ col gv = 1 ∧ (∀ k, Rum.Its gq A k → col k = 2) ∧ (∀ k, Prb.Its go B k → col k = 3) ∧ (∀ k, Wat.Its gc C k → col k = 4)
def Det (w : World) (S : Nat → Prop) (g : Nat) (d : Dt) : Prop := ∃ gv gq go gc A B n c C, DetX w S g d gv gq go gc A B n c C
/-- The detector at g is turned to d; nothing outside S is. -/
def DTurn (w w' : World) (S : Nat → Prop) (g : Nat) (d : Dt) : Prop := ∃ S', Det w' S' g d ∧ (∀ k, S' k → S k ∨ w.heap.size ≤ k) ∧ Rum.Wr w w' S
theorem wrW {w w' : World} {S : Nat → Prop} (h : Wat.Wr w w' S) : Rum.Wr w w' S := ⟨h.os, h.tape, h.output, h.size, h.block⟩
theorem wrP {w w' : World} {S : Nat → Prop} (h : Prb.Wr w w' S) : Rum.Wr w w' S := ⟨h.os, h.tape, h.output, h.size, h.block⟩
theorem wrW' {w w' : World} {S : Nat → Prop} (h : Rum.Wr w w' S) : Wat.Wr w w' S := ⟨h.os, h.tape, h.output, h.size, h.block⟩
theorem wrP' {w w' : World} {S : Nat → Prop} (h : Rum.Wr w w' S) : Prb.Wr w w' S := ⟨h.os, h.tape, h.output, h.size, h.block⟩
section
variable {w w' : World} {S T : Nat → Prop} {g : Nat} {d : Dt} {gv gq go gc : Nat} {A B : Option Addr} {n c : Nat} {C : Option Addr}
theorem DetX.wr (h : DetX w S g d gv gq go gc A B n c C) (hw : Rum.Wr w w' T) (hd : ∀ k, S k → ¬ T k) : DetX w' S g d gv gq go gc A B n c C :=
  ⟨h.ok, h.dcs.wr hw (hd g h.sg), (hw.block gv h.vw.lt (hd gv h.sv)).trans h.vw, h.qu.wr hw (fun k hk => hd k (h.sq k hk)), h.od.wr (wrP' hw) (hd go (h.so go (.inl rfl))) (fun b off e => hd b (h.so b (.inr ⟨off, e⟩))), h.ck.wr (wrW' hw) (fun k hk => hd k (h.sc k hk)), fun k hk => Nat.lt_of_lt_of_le (h.blk k hk) hw.size, h.sg, h.sv, h.sq, h.so, h.sc, h.sep⟩
theorem DetX.below (h : DetX w S g d gv gq go gc A B n c C) (hb : Below w.heap.size w w') : DetX w' S g d gv gq go gc A B n c C := h.wr (Rum.Wr.of_below hb (fun _ => False)) (fun _ _ h => h)
end
theorem Det.wr {w w' : World} {S T : Nat → Prop} {g : Nat} {d : Dt} (h : Det w S g d) (hw : Rum.Wr w w' T) (hd : ∀ k, S k → ¬ T k) : Det w' S g d := by
  obtain ⟨gv, gq, go, gc, A, B, n, c, C, h⟩ := h
  exact ⟨gv, gq, go, gc, A, B, n, c, C, h.wr hw hd⟩
theorem Det.below {w w' : World} {S : Nat → Prop} {g : Nat} {d : Dt} (h : Det w S g d) (hb : Below w.heap.size w w') : Det w' S g d := h.wr (Rum.Wr.of_below hb (fun _ => False)) (fun _ _ h => h)
theorem Det.blk {w : World} {S : Nat → Prop} {g : Nat} {d : Dt} (h : Det w S g d) : ∀ k, S k → k < w.heap.size := by
  obtain ⟨gv, gq, go, gc, A, B, n, c, C, h⟩ := h
  exact h.blk
theorem Det.ok {w : World} {S : Nat → Prop} {g : Nat} {d : Dt} (h : Det w S g d) : d.Ok := by
  obtain ⟨gv, gq, go, gc, A, B, n, c, C, h⟩ := h
  exact h.ok
theorem DTurn.of_below {w w' : World} {S : Nat → Prop} {g : Nat} {d : Dt} (h : Det w S g d) (hb : Below w.heap.size w w') : DTurn w w' S g d :=
  ⟨S, h.below hb, fun k hk => .inl hk, Rum.Wr.of_below hb _⟩
theorem DTurn.trans {w w1 w2 : World} {S : Nat → Prop} {g : Nat} {d e : Dt} (h : DTurn w w1 S g d) (k : ∀ S', Det w1 S' g d → DTurn w1 w2 S' g e) : DTurn w w2 S g e := by
  obtain ⟨S1, h1, h2, h3⟩ := h
  obtain ⟨S2, k1, k2, k3⟩ := k S1 h1
  exact ⟨S2, k1, fun i hi => (k2 i hi).elim (h2 i) (fun h => .inr (Nat.le_trans h3.size h)), h3.then_ k3 h2⟩
theorem DTurn.then_below {w w1 w2 : World} {S : Nat → Prop} {g : Nat} {d : Dt} (h : DTurn w w1 S g d) (hb : Below w1.heap.size w1 w2) : DTurn w w2 S g d := h.trans fun S' hd => DTurn.of_below hd hb
/-- One part is turned. -/
theorem DetX.turnV {w w' : World} {S : Nat → Prop} {g gv gq go gc : Nat} {d d' : Dt} {A B C : Option Addr} {n c : Nat} (h : DetX w S g d gv gq go gc A B n c C) (hw : Rum.Wr w w' (fun k => k = gv)) (hv : Bel.Vw w' gv d'.p d'.q)
    (e : d'.self = d.self ∧ d'.inc = d.inc ∧ d'.now = d.now ∧ d'.seq = d.seq ∧ d'.asked = d.asked ∧ d'.over = d.over ∧ d'.left = d.left ∧ d'.L = d.L ∧ d'.zs = d.zs ∧ d'.M = d.M) : DetX w' S g d' gv gq go gc A B n c C := by
  obtain ⟨e1, e2, e3, e4, e5, e6, e7, e8, e9, e10⟩ := e
  obtain ⟨col, c0, c1, c2, c3, c4⟩ := h.sep
  refine ⟨⟨by rw [e1]; exact h.ok.self, by rw [e2]; exact h.ok.inc, by rw [e3]; exact h.ok.now, by rw [e4]; exact h.ok.seq, by rw [e5]; exact h.ok.asked⟩, ?_, hv, ?_, ?_, ?_, fun k hk => Nat.lt_of_lt_of_le (h.blk k hk) hw.size, h.sg, h.sv, h.sq, h.so, h.sc, h.sep⟩
  · have := h.dcs.wr hw (fun e => by rw [e] at c0; omega)
    unfold DC dc at this ⊢
    rw [e1, e2, e3, e4, e5, e6, e7]
    exact this
  · rw [e8]; exact h.qu.wr hw (fun k hk e => by have := c2 k hk; rw [e] at this; omega)
  · rw [e9, e1]; exact h.od.wr (wrP' hw) (fun e => by have := c3 go (.inl rfl); rw [e] at this; omega) (fun b off eb e => by have := c3 b (.inr ⟨off, eb⟩); rw [e] at this; omega)
  · rw [e10]; exact h.ck.wr (wrW' hw) (fun k hk e => by have := c4 k hk; rw [e] at this; omega)
theorem DetX.turnD {w w' : World} {S : Nat → Prop} {g gv gq go gc : Nat} {d d' : Dt} {A B C : Option Addr} {n c : Nat} (h : DetX w S g d gv gq go gc A B n c C) (hw : Rum.Wr w w' (fun k => k = g)) (hv : DC w' g d' gv gq go gc) (ho : d'.Ok)
    (e : d'.self = d.self ∧ d'.p = d.p ∧ d'.q = d.q ∧ d'.L = d.L ∧ d'.zs = d.zs ∧ d'.M = d.M) : DetX w' S g d' gv gq go gc A B n c C := by
  obtain ⟨e1, e2, e3, e8, e9, e10⟩ := e
  obtain ⟨col, c0, c1, c2, c3, c4⟩ := h.sep
  refine ⟨ho, hv, ?_, ?_, ?_, ?_, fun k hk => Nat.lt_of_lt_of_le (h.blk k hk) hw.size, h.sg, h.sv, h.sq, h.so, h.sc, h.sep⟩
  · rw [e2, e3]; exact (hw.block gv h.vw.lt (fun e => by rw [e] at c1; omega)).trans h.vw
  · rw [e8]; exact h.qu.wr hw (fun k hk e => by have := c2 k hk; rw [e] at this; omega)
  · rw [e9, e1]; exact h.od.wr (wrP' hw) (fun e => by have := c3 go (.inl rfl); rw [e] at this; omega) (fun b off eb e => by have := c3 b (.inr ⟨off, eb⟩); rw [e] at this; omega)
  · rw [e10]; exact h.ck.wr (wrW' hw) (fun k hk e => by have := c4 k hk; rw [e] at this; omega)
theorem DetX.turnQ {w w' : World} {S : Nat → Prop} {g gv gq go gc : Nat} {d : Dt} {A B C : Option Addr} {n c : Nat} {L : List Rum.Tld} (h : DetX w S g d gv gq go gc A B n c C) (t : Rum.Turn w w' gq 3 A L) : ∃ A' S', DetX w' S' g { d with L := L } gv gq go gc A' B n c C ∧ (∀ k, S' k → S k ∨ w.heap.size ≤ k) ∧ Rum.Wr w w' S := by
  obtain ⟨A', k', f, hw⟩ := t
  obtain ⟨col, c0, c1, c2, c3, c4⟩ := h.sep
  have hold : ∀ k, S k → k < w.heap.size := h.blk
  refine ⟨A', fun k => S k ∨ Rum.Its gq A' k, ⟨⟨h.ok.self, h.ok.inc, h.ok.now, h.ok.seq, h.ok.asked⟩, ?_, ?_, k', ?_, ?_, ?_, .inl h.sg, .inl h.sv, fun k hk => .inr hk, fun k hk => .inl (h.so k hk), fun k hk => .inl (h.sc k hk), ?_⟩, ?_, ?_⟩
  · exact h.dcs.wr hw (fun hk => by have := c2 g hk; omega)
  · exact (hw.block gv h.vw.lt (fun hk => by have := c2 gv hk; omega)).trans h.vw
  · exact h.od.wr (wrP' hw) (fun hk => by have := c2 go hk; have := c3 go (.inl rfl); omega) (fun b off eb hk => by have := c2 b hk; have := c3 b (.inr ⟨off, eb⟩); omega)
  · exact h.ck.wr (wrW' hw) (fun k hk hk2 => by have := c2 k hk2; have := c4 k hk; omega)
  · rintro k (hk | hk)
    · exact Nat.lt_of_lt_of_le (hold k hk) hw.size
    · exact k'.its k hk
  · refine ⟨fun k => if w.heap.size ≤ k then 2 else col k, ?_, ?_, ?_, ?_, ?_⟩
    · have := hold g h.sg; simp only; rw [if_neg (by omega)]; exact c0
    · have := hold gv h.sv; simp only; rw [if_neg (by omega)]; exact c1
    · intro k hk
      rcases f.its gq k hk with h1 | h1
      · have := hold k (h.sq k h1); simp only; rw [if_neg (by omega)]; exact c2 k h1
      · simp only; rw [if_pos h1]
    · intro k hk; have := hold k (h.so k hk); simp only; rw [if_neg (by omega)]; exact c3 k hk
    · intro k hk; have := hold k (h.sc k hk); simp only; rw [if_neg (by omega)]; exact c4 k hk
  · rintro k (hk | hk)
    · exact .inl hk
    · rcases f.its gq k hk with h1 | h1
      · exact .inl (h.sq k h1)
      · exact .inr h1
  · exact hw.mono h.sq
theorem DetX.turnC {w w' : World} {S : Nat → Prop} {g gv gq go gc : Nat} {d : Dt} {A B C : Option Addr} {n c : Nat} {M : List Wat.Mom} (h : DetX w S g d gv gq go gc A B n c C) (t : Wat.Turn w w' gc C M) : ∃ C' S', DetX w' S' g { d with M := M } gv gq go gc A B n c C' ∧ (∀ k, S' k → S k ∨ w.heap.size ≤ k) ∧ Rum.Wr w w' S := by
  obtain ⟨C', k', f, hw0⟩ := t
  have hw := wrW hw0
  obtain ⟨col, c0, c1, c2, c3, c4⟩ := h.sep
  have hold : ∀ k, S k → k < w.heap.size := h.blk
  refine ⟨C', fun k => S k ∨ Wat.Its gc C' k, ⟨⟨h.ok.self, h.ok.inc, h.ok.now, h.ok.seq, h.ok.asked⟩, ?_, ?_, ?_, ?_, k', ?_, .inl h.sg, .inl h.sv, fun k hk => .inl (h.sq k hk), fun k hk => .inl (h.so k hk), fun k hk => .inr hk, ?_⟩, ?_, ?_⟩
  · exact h.dcs.wr hw (fun hk => by have := c4 g hk; omega)
  · exact (hw.block gv h.vw.lt (fun hk => by have := c4 gv hk; omega)).trans h.vw
  · exact h.qu.wr hw (fun k hk hk2 => by have := c4 k hk2; have := c2 k hk; omega)
  · exact h.od.wr (wrP' hw) (fun hk => by have := c4 go hk; have := c3 go (.inl rfl); omega) (fun b off eb hk => by have := c4 b hk; have := c3 b (.inr ⟨off, eb⟩); omega)
  · rintro k (hk | hk)
    · exact Nat.lt_of_lt_of_le (hold k hk) hw.size
    · exact k'.its k hk
  · refine ⟨fun k => if w.heap.size ≤ k then 4 else col k, ?_, ?_, ?_, ?_, ?_⟩
    · have := hold g h.sg; simp only; rw [if_neg (by omega)]; exact c0
    · have := hold gv h.sv; simp only; rw [if_neg (by omega)]; exact c1
    · intro k hk; have := hold k (h.sq k hk); simp only; rw [if_neg (by omega)]; exact c2 k hk
    · intro k hk; have := hold k (h.so k hk); simp only; rw [if_neg (by omega)]; exact c3 k hk
    · intro k hk
      rcases f.its gc k hk with h1 | h1
      · have := hold k (h.sc k h1); simp only; rw [if_neg (by omega)]; exact c4 k h1
      · simp only; rw [if_pos h1]
  · rintro k (hk | hk)
    · exact .inl hk
    · rcases f.its gc k hk with h1 | h1
      · exact .inl (h.sc k h1)
      · exact .inr h1
  · exact hw.mono h.sc
end Go.Proofs.YthndjhocmpelcaaGreat.Swi
namespace Go.Proofs.YthndjhocmpelcaaGreat.Swi
open Go.RowKit Kit Hth Tri3
set_option linter.unusedVariables false
theorem keepC {w w' : World} {q o : Nat} {v : Value} (hb : Below w.heap.size w w') (h : w.cell? ⟨q, o, none⟩ = some v) : w'.cell? ⟨q, o, none⟩ = some v :=
  (hb.cell (p := ⟨q, o, none⟩) (World.block_lt_of_cell? w _ h)).trans h
/-- Is it doubt, that must be spoken against? -/
def dbt (inc i h : Int) : Bool := (h == 2 || h == 3) && decide (inc ≤ i)
def rfI (inc i h : Int) : Int := if dbt inc i h then (if i = 1000000 then inc else i + 1) else inc
def rfE (inc i h : Int) : Int := if dbt inc i h then (if i = 1000000 then 6 else 0) else 0
set_option maxRecDepth 100000 in
set_option maxHeartbeats 4000000 in
theorem refute1 (self inc i h : Int) (w : World) (hs : Hid (0 ≤ self ∧ self ≤ 7)) (hi : Hid (0 ≤ inc ∧ inc ≤ 1000000)) (hm : Hid (true = mayC self i h)) (r e0 : Int) (hr : Hid (r = rfI inc i h)) (he : Hid (e0 = rfE inc i h)) :
    Calls Tryz.prog 86 #[.int .i64 self, .int .i64 inc, .agg #[.int .i64 self, .int .i64 i, .int .i64 h]] w fun e w' => e = .returned (.tuple #[.int .i64 r, .int .i64 e0]) ∧ Below w.heap.size w w' := by
  have HN : Hid (true = nodeB self) := Hid.mk_ (by have := hs.out; unfold nodeB; simp; omega)
  have hb := Hid.mk_ ((Below.refl w.heap.size w).alloc (Nat.le_refl _) (.cells #[.int .i64 self, .int .i64 i, .int .i64 h] 30))
  have x0 : (w.alloc (.cells #[.int .i64 self, .int .i64 i, .int .i64 h] 30)).cell? ⟨w.heap.size, 0, none⟩ = some (.int .i64 self) := by rw [World.cell?_alloc_new]; rfl
  have x1 : (w.alloc (.cells #[.int .i64 self, .int .i64 i, .int .i64 h] 30)).cell? ⟨w.heap.size, 1, none⟩ = some (.int .i64 i) := by rw [World.cell?_alloc_new]; rfl
  have x2 : (w.alloc (.cells #[.int .i64 self, .int .i64 i, .int .i64 h] 30)).cell? ⟨w.heap.size, 2, none⟩ = some (.int .i64 h) := by rw [World.cell?_alloc_new]; rfl
  have i0 : ¬ inc < 0 := by have := hi.out; omega
  have i1 : ¬ 1000000 < inc := by have := hi.out; omega
  have HI := Hid.mk_ hi.out
  have ib : Hid (0 ≤ i ∧ i ≤ 1000000 ∨ (i = 0)) := Hid.mk_ (by have := hm.out; unfold mayC at this; simp at this; omega)
  go_enter Tryz.func86, Tryz.ntmps86
  go_upto_region 1 with fail
  generalize hz : w.heap.size = z at *
  generalize w.alloc (.cells #[.int .i64 self, .int .i64 i, .int .i64 h] 30) = w1 at *
  have BR : ∀ w2, Below w1.heap.size w1 w2 → Below w.heap.size w w2 := fun w2 b2 => by
    have := hb.out
    rw [hz]
    exact this.trans (b2.mono (by have := this.size; omega))
  have HBR := Hid.mk_ BR
  clear BR hz
  by_cases hd : h = 2
  · have d2 : (h == 2) = true := by simp [hd]
    by_cases hle : inc ≤ i
    · have hle2 : ¬ i < inc := by omega
      have hdb : dbt inc i h = true := by unfold dbt; simp [hd, hle]
      by_cases hmx : i = 1000000
      · have er : r = inc := by rw [hr.out]; unfold rfI; rw [hdb, if_pos rfl, if_pos hmx]
        have ee : e0 = 6 := by rw [he.out]; unfold rfE; rw [hdb, if_pos rfl, if_pos hmx]
        have hmb : (i == 1000000) = true := by simp [hmx]
        subst er ee
        clear hr he hdb hmx hd
        go_wp2_with (first | (go_at_call 61; refine (node1 self _ true HN).mono ?_; rintro e w2 ⟨rfl, rfl⟩) | (go_at_call 35; refine (may1 _ _ _ _ true hm).mono ?_; rintro e w3 ⟨rfl, b3⟩; have y0 := keepC b3 x0; have y1 := keepC b3 x1; have y2 := keepC b3 x2))
        go_ret2
        exact ⟨rfl, HBR.out _ b3⟩
      · have er : r = i + 1 := by rw [hr.out]; unfold rfI; rw [hdb, if_pos rfl, if_neg hmx]
        have ee : e0 = 0 := by rw [he.out]; unfold rfE; rw [hdb, if_pos rfl, if_neg hmx]
        have hmb : (i == 1000000) = false := by simp [hmx]
        have hw : IntKind.i64.wrap (i + 1) = i + 1 := IntWalk.i64_in _ (by have := ib.out; omega)
        have hib : 0 ≤ i ∧ i < 1000000 := by have := ib.out; have := HI.out; omega
        subst er ee
        clear hr he hdb hmx hd
        go_wp2_with (first | (go_at_call 61; refine (node1 self _ true HN).mono ?_; rintro e w2 ⟨rfl, rfl⟩) | (go_at_call 35; refine (may1 _ _ _ _ true hm).mono ?_; rintro e w3 ⟨rfl, b3⟩; have y0 := keepC b3 x0; have y1 := keepC b3 x1; have y2 := keepC b3 x2))
        go_ret2
        exact ⟨rfl, HBR.out _ b3⟩
    · have hle2 : i < inc := by omega
      have hdb : dbt inc i h = false := by unfold dbt; simp [hle]
      have er : r = inc := by rw [hr.out]; unfold rfI; rw [hdb]; rfl
      have ee : e0 = 0 := by rw [he.out]; unfold rfE; rw [hdb]; rfl
      subst er ee
      clear hr he hdb hd
      go_wp2_with (first | (go_at_call 61; refine (node1 self _ true HN).mono ?_; rintro e w2 ⟨rfl, rfl⟩) | (go_at_call 35; refine (may1 _ _ _ _ true hm).mono ?_; rintro e w3 ⟨rfl, b3⟩; have y0 := keepC b3 x0; have y1 := keepC b3 x1; have y2 := keepC b3 x2))
      go_ret2
      exact ⟨rfl, HBR.out _ b3⟩
  · have d2 : (h == 2) = false := by simp [hd]
    by_cases hd3 : h = 3
    · have d3 : (h == 3) = true := by simp [hd3]
      by_cases hle : inc ≤ i
      · have hle2 : ¬ i < inc := by omega
        have hdb : dbt inc i h = true := by unfold dbt; simp [hd3, hle]
        by_cases hmx : i = 1000000
        · have er : r = inc := by rw [hr.out]; unfold rfI; rw [hdb, if_pos rfl, if_pos hmx]
          have ee : e0 = 6 := by rw [he.out]; unfold rfE; rw [hdb, if_pos rfl, if_pos hmx]
          have hmb : (i == 1000000) = true := by simp [hmx]
          subst er ee
          clear hr he hdb hmx hd3 hd
          go_wp2_with (first | (go_at_call 61; refine (node1 self _ true HN).mono ?_; rintro e w2 ⟨rfl, rfl⟩) | (go_at_call 35; refine (may1 _ _ _ _ true hm).mono ?_; rintro e w3 ⟨rfl, b3⟩; have y0 := keepC b3 x0; have y1 := keepC b3 x1; have y2 := keepC b3 x2))
          go_ret2
          exact ⟨rfl, HBR.out _ b3⟩
        · have er : r = i + 1 := by rw [hr.out]; unfold rfI; rw [hdb, if_pos rfl, if_neg hmx]
          have ee : e0 = 0 := by rw [he.out]; unfold rfE; rw [hdb, if_pos rfl, if_neg hmx]
          have hmb : (i == 1000000) = false := by simp [hmx]
          have hw : IntKind.i64.wrap (i + 1) = i + 1 := IntWalk.i64_in _ (by have := ib.out; omega)
          have hib : 0 ≤ i ∧ i < 1000000 := by have := ib.out; have := HI.out; omega
          subst er ee
          clear hr he hdb hmx hd3 hd
          go_wp2_with (first | (go_at_call 61; refine (node1 self _ true HN).mono ?_; rintro e w2 ⟨rfl, rfl⟩) | (go_at_call 35; refine (may1 _ _ _ _ true hm).mono ?_; rintro e w3 ⟨rfl, b3⟩; have y0 := keepC b3 x0; have y1 := keepC b3 x1; have y2 := keepC b3 x2))
          go_ret2
          exact ⟨rfl, HBR.out _ b3⟩
      · have hle2 : i < inc := by omega
        have hdb : dbt inc i h = false := by unfold dbt; simp [hle]
        have er : r = inc := by rw [hr.out]; unfold rfI; rw [hdb]; rfl
        have ee : e0 = 0 := by rw [he.out]; unfold rfE; rw [hdb]; rfl
        subst er ee
        clear hr he hdb hd3 hd
        go_wp2_with (first | (go_at_call 61; refine (node1 self _ true HN).mono ?_; rintro e w2 ⟨rfl, rfl⟩) | (go_at_call 35; refine (may1 _ _ _ _ true hm).mono ?_; rintro e w3 ⟨rfl, b3⟩; have y0 := keepC b3 x0; have y1 := keepC b3 x1; have y2 := keepC b3 x2))
        go_ret2
        exact ⟨rfl, HBR.out _ b3⟩
    · have d3 : (h == 3) = false := by simp [hd3]
      have hdb : dbt inc i h = false := by unfold dbt; simp [hd, hd3]
      have er : r = inc := by rw [hr.out]; unfold rfI; rw [hdb]; rfl
      have ee : e0 = 0 := by rw [he.out]; unfold rfE; rw [hdb]; rfl
      subst er ee
      clear hr he hdb hd3 hd
      go_wp2_with (first | (go_at_call 61; refine (node1 self _ true HN).mono ?_; rintro e w2 ⟨rfl, rfl⟩) | (go_at_call 35; refine (may1 _ _ _ _ true hm).mono ?_; rintro e w3 ⟨rfl, b3⟩; have y0 := keepC b3 x0; have y1 := keepC b3 x1; have y2 := keepC b3 x2))
      go_ret2
      exact ⟨rfl, HBR.out _ b3⟩
end Go.Proofs.YthndjhocmpelcaaGreat.Swi
namespace Go.Proofs.YthndjhocmpelcaaGreat.Swi
open Go.RowKit Kit Hth Tri3
set_option linter.unusedVariables false
/-- It says of itself: as. -/
def dSays (d : Dt) (hs : Int) : Dt := { d with p := Bel.upd d.p d.self d.inc (Bel.hearB d.p d.q d.self d.inc hs), q := Bel.upd d.q d.self hs (Bel.hearB d.p d.q d.self d.inc hs), L := Rum.putQ ⟨d.self, d.inc, hs⟩ d.L }
/-- What is heard of another. -/
def dHeard (d : Dt) (c : Cl) : Dt := { d with p := Bel.upd d.p c.n c.i (Bel.hearB d.p d.q c.n c.i c.h), q := Bel.upd d.q c.n c.h (Bel.hearB d.p d.q c.n c.i c.h) }
theorem DetX.heard {w w' : World} {S : Nat → Prop} {g gv gq go gc : Nat} {d : Dt} {A B C : Option Addr} {n c : Nat} (h : DetX w S g d gv gq go gc A B n c C) (x : Cl) (hv : Bel.Vw w' gv (Bel.upd d.p x.n x.i (Bel.hearB d.p d.q x.n x.i x.h)) (Bel.upd d.q x.n x.h (Bel.hearB d.p d.q x.n x.i x.h))) (hg : w.grownBy w' (some gv)) :
    DetX w' S g (dHeard d x) gv gq go gc A B n c C :=
  h.turnV (Rum.Wr.of_gb hg) hv ⟨rfl, rfl, rfl, rfl, rfl, rfl, rfl, rfl, rfl, rfl⟩
theorem DetX.ne {w : World} {S : Nat → Prop} {g gv gq go gc : Nat} {d : Dt} {A B C : Option Addr} {n c : Nat} (h : DetX w S g d gv gq go gc A B n c C) : g ≠ gv ∧ ¬ Rum.Its gq A g ∧ ¬ Wat.Its gc C g ∧ ¬ Prb.Its go B g := by
  obtain ⟨col, c0, c1, c2, c3, c4⟩ := h.sep
  exact ⟨fun e => by rw [← e] at c1; omega, fun e => by have := c2 g e; omega, fun e => by have := c4 g e; omega, fun e => by have := c3 g e; omega⟩
theorem turnWr {w w1 : World} {g : Nat} {o : Int} {A : Option Addr} {M : List Rum.Tld} (t : Rum.Turn w w1 g o A M) : Rum.Wr w w1 (Rum.Its g A) := by
  obtain ⟨A', k, f, r⟩ := t
  exact r
theorem turnWrC {w w1 : World} {g : Nat} {A : Option Addr} {M : List Wat.Mom} (t : Wat.Turn w w1 g A M) : Rum.Wr w w1 (Wat.Its g A) := by
  obtain ⟨A', k, f, r⟩ := t
  exact wrW r
theorem results_cell1 {fn : Func} {p : Tmp} {ty : TypeId} (h : fn.results = #[.cell p ty]) (tmps : Array Value) (P : Program) (w : World) :
    (results fn tmps).run P w = ((asAddr (tmps.getD p undef)).run P w).andThen fun a w₁ => (loadVar ty a).run P w₁ := by
  simp only [results, h]
  simp [Sem.run_bind, Result.andThen]
theorem box3k {w w' : World} {q : Nat} {x y z : Int} (h : Rum.Box3 w q x y z) (hb : Below w.heap.size w w') : Rum.Box3 w' q x y z := h.keep hb
theorem box3w {w w' : World} {q : Nat} {x y z : Int} {T : Nat → Prop} (h : Rum.Box3 w q x y z) (r : Rum.Wr w w' T) (hn : ¬ T q) : Rum.Box3 w' q x y z := by
  have hf : ∀ o, w'.frozen? ⟨q, o, none⟩ = w.frozen? ⟨q, o, none⟩ := fun o => r.frozen h.lt hn
  exact ⟨r.cell h.c0 hn, r.cell h.c1 hn, r.cell h.c2 hn, (hf 0).trans h.f0, (hf 1).trans h.f1, (hf 2).trans h.f2⟩
set_option maxRecDepth 100000 in
set_option maxHeartbeats 4000000 in
theorem says (w : World) (S : Nat → Prop) (g : Nat) (d : Dt) (hs : Int) (h : Hid (Det w S g d)) (d' : Dt) (hd : Hid (d' = dSays d hs)) (v : Value) (hv : Hid (v = .agg #[.int .i64 d.self, .int .i64 d.inc, .int .i64 hs])) :
    Calls Tryz.prog 40 #[.pointer (some ⟨g, 0, none⟩), .int .i64 hs] w fun e w' => e = .returned v ∧ Hid (DTurn w w' S g d') := by
  obtain ⟨gv, gq, go, gc, A, B, n, c, C, X⟩ := h.out
  have bx := Hid.mk_ (Rum.Box3.made w 0 0 0)
  have al := Hid.mk_ ((Below.refl w.heap.size w).alloc (Nat.le_refl _) (.cells #[.int .i64 0, .int .i64 0, .int .i64 0] 30))
  have X1 := Hid.mk_ (X.below al.out)
  have NS := Hid.mk_ X.blk
  go_enter Tryz.func40, Tryz.ntmps40
  go_upto_region 1 with fail
  generalize w.alloc (.cells #[.int .i64 0, .int .i64 0, .int .i64 0] 30) = w1 at *
  obtain ⟨z0, hz0⟩ : ∃ z0, z0 = w.heap.size := ⟨_, rfl⟩
  have HZ0 := Hid.mk_ hz0
  rw [← hz0] at bx ⊢
  clear hz0 X
  have c0 : w1.cell? ⟨g, 0, none⟩ = some (.int .i64 d.self) := X1.out.dcs.cell 0
  have c1 : w1.cell? ⟨g, 1, none⟩ = some (.int .i64 d.inc) := X1.out.dcs.cell 1
  have lt1 : g < w1.heap.size := X1.out.dcs.lt
  have lt2 := bx.out.lt
  go_region
  have al2 := ((Below.refl w1.heap.size w1).alloc (Nat.le_refl _) (.cells #[.int .i64 d.self, .int .i64 d.inc, .int .i64 hs] 30)).drew
  have BQ0 : Rum.Box3 (w1.alloc (.cells #[.int .i64 d.self, .int .i64 d.inc, .int .i64 hs] 30)).drew w1.heap.size d.self d.inc hs := box3k (Rum.Box3.made w1 d.self d.inc hs) (Below.refl _ _).drew
  have BQ := Hid.mk_ BQ0
  have X2 := Hid.mk_ (X1.out.below al2)
  have BZ := Hid.mk_ (box3k bx.out al2)
  have B2 := Hid.mk_ (al.out.trans (al2.mono al.out.size))
  have NQ : Hid (∀ k, S k → k < w1.heap.size) := Hid.mk_ (fun k hk => Nat.lt_of_lt_of_le (NS.out k hk) al.out.size)
  have NZ : Hid (∀ k, S k → k < z0) := Hid.mk_ (fun k hk => by have := NS.out k hk; have := HZ0.out; omega)
  obtain ⟨z1, hz1⟩ : ∃ z1, z1 = w1.heap.size := ⟨_, rfl⟩
  have HZ1 := Hid.mk_ hz1
  have QZ : Hid (z0 < z1) := Hid.mk_ (by omega)
  rw [← hz1] at BQ NQ ⊢
  clear BQ0 al2 X1 bx c0 c1 lt1 lt2 hz1
  generalize (w1.alloc (.cells #[.int .i64 d.self, .int .i64 d.inc, .int .i64 hs] 30)).drew = w2 at *
  have c2 : w2.cell? ⟨g, 2, none⟩ = some (.pointer (some ⟨gv, 0, none⟩)) := X2.out.dcs.cell 2
  obtain ⟨x0, x1, x2, _, _, _⟩ := BQ.out
  go_upto_region 2 with fail
  go_region_held3 (fun w' => w'.cell? ⟨g, 2, none⟩ = some (.pointer (some ⟨gv, 0, none⟩)) ∧ w'.cell? ⟨z1, 0, none⟩ = some (.int .i64 d.self) ∧ w'.cell? ⟨z1, 1, none⟩ = some (.int .i64 d.inc) ∧ w'.cell? ⟨z1, 2, none⟩ = some (.int .i64 hs)) (first | exact ⟨by assumption, by assumption, by assumption, by assumption⟩ | go_keep) (first
    | (go_at_call 30; refine (Bel.hear0 d.p d.q gv d.self d.inc hs w2.drew (X2.out.below (Below.refl _ _).drew).vw).mono ?_; rintro e w3 ⟨rfl, hv3, hg3⟩; have r3 := Rum.Wr.of_gb hg3; have s2 := r3.cell (by exact c2) X2.out.ne.1; have s3 := r3.cell (by exact x0) (fun e => by have := NQ.out gv X2.out.sv; omega); have s4 := r3.cell (by exact x1) (fun e => by have := NQ.out gv X2.out.sv; omega); have s5 := r3.cell (by exact x2) (fun e => by have := NQ.out gv X2.out.sv; omega))
    | fail)
  have dr : Below w2.heap.size w2 w2.drew := (Below.refl _ _).drew
  have X3 := Hid.mk_ ((X2.out.below dr).heard ⟨d.self, d.inc, hs⟩ hv3 hg3)
  have R3 : Hid (Rum.Wr w w3 S) := Hid.mk_ (((Rum.Wr.of_below B2.out S).then_ (Rum.Wr.of_below dr (fun _ => False)) (fun _ h => h.elim)).then_ r3 (fun i hi => .inl (by rw [hi]; exact X2.out.sv)))
  have BQ3 := Hid.mk_ (box3w (box3k BQ.out dr) r3 (fun e => by have := NQ.out gv X2.out.sv; omega))
  have BZ3 := Hid.mk_ (box3w (box3k BZ.out dr) r3 (fun e => by have := NZ.out gv X2.out.sv; omega))
  clear c2 x0 x1 x2 s2 s3 s4 s5 X2 BQ BZ B2 hv3 hg3 r3 dr al
  obtain ⟨x0, x1, x2, _, _, _⟩ := BQ3.out
  have c3 : w3.cell? ⟨g, 3, none⟩ = some (.pointer (some ⟨gq, 0, none⟩)) := X3.out.dcs.cell 3
  have QD : Hid (Rum.Que w3 gq 3 A d.L) := Hid.mk_ X3.out.qu
  obtain ⟨M, hM⟩ : ∃ M, M = Rum.putQ ⟨d.self, d.inc, hs⟩ d.L := ⟨_, rfl⟩
  have HM := Hid.mk_ hM
  clear hM
  go_upto_region 3 with fail
  go_region_held3 (fun w' => w'.cell? ⟨g, 3, none⟩ = some (.pointer (some ⟨gq, 0, none⟩)) ∧ w'.cell? ⟨z1, 0, none⟩ = some (.int .i64 d.self) ∧ w'.cell? ⟨z1, 1, none⟩ = some (.int .i64 d.inc) ∧ w'.cell? ⟨z1, 2, none⟩ = some (.int .i64 hs)) (first | exact ⟨by assumption, by assumption, by assumption, by assumption⟩ | go_keep) (first
    | (go_at_call 63; refine (Rum.put0 w3.drew gq 3 A d.L ⟨d.self, d.inc, hs⟩ (by exact Hid.mk_ (QD.out.below (Below.refl _ _).drew)) _ (Hid.mk_ rfl) M HM).mono ?_; rintro e w4 ⟨rfl, t4⟩; have r4 := turnWr t4.out; have s2 := r4.cell (by exact c3) X3.out.ne.2.1; have s3 := r4.cell (by exact x0) (fun e => by have := NQ.out z1 (X3.out.sq z1 e); omega); have s4 := r4.cell (by exact x1) (fun e => by have := NQ.out z1 (X3.out.sq z1 e); omega); have s5 := r4.cell (by exact x2) (fun e => by have := NQ.out z1 (X3.out.sq z1 e); omega))
    | fail)
  have dr : Below w3.heap.size w3 w3.drew := (Below.refl _ _).drew
  obtain ⟨A4, S4, x4, hS4, rS4⟩ := (X3.out.below dr).turnQ t4.out
  have X4 := Hid.mk_ x4
  have R4 : Hid (Rum.Wr w w4 S) := Hid.mk_ ((R3.out.then_ (Rum.Wr.of_below dr (fun _ => False)) (fun _ h => h.elim)).then_ rS4 (fun i hi => .inl hi))
  have BZ4 := Hid.mk_ (box3w (box3k BZ3.out dr) r4 (fun e => by have := NZ.out z0 (X3.out.sq z0 e); omega))
  have BQ4 := Hid.mk_ (box3w (box3k BQ3.out dr) r4 (fun e => by have := NQ.out z1 (X3.out.sq z1 e); omega))
  have NZ4 : Hid (∀ k, S4 k → ¬ k = z0) := Hid.mk_ (fun k hk e => by
    subst e
    rcases hS4 k hk with h1 | h1
    · have := NZ.out k h1; omega
    · have := (box3k BZ3.out dr).lt; omega)
  have HS4 : Hid (∀ k, S4 k → S k ∨ w.heap.size ≤ k) := Hid.mk_ (fun k hk => by
    rcases hS4 k hk with h1 | h1
    · exact .inl h1
    · have := R3.out.size; have := dr.size; exact .inr (by omega))
  clear c3 x0 x1 x2 s2 s3 s4 s5 X3 BQ3 BZ3 R3 x4 hS4 rS4 t4 r4 dr QD
  obtain ⟨x0, x1, x2, _, _, _⟩ := BQ4.out
  obtain ⟨y0, y1, y2, f0, f1, f2⟩ := BZ4.out
  go_wp2_with fail
  have bs := BZ4.out.set d.self d.inc hs
  have ws : Rum.Wr w4 (((w4.setCell ⟨z0, 0, none⟩ (.int .i64 d.self)).setCell ⟨z0, 1, none⟩ (.int .i64 d.inc)).setCell ⟨z0, 2, none⟩ (.int .i64 hs)) (fun k => k = z0) := ((Rum.Wr.set w4 z0 0 _).then_ (Rum.Wr.set _ z0 1 _) (fun i hi => .inl hi)).then_ (Rum.Wr.set _ z0 2 _) (fun i hi => .inl hi)
  generalize ((w4.setCell ⟨z0, 0, none⟩ (.int .i64 d.self)).setCell ⟨z0, 1, none⟩ (.int .i64 d.inc)).setCell ⟨z0, 2, none⟩ (.int .i64 hs) = w5 at *
  have DT : DTurn w w5 S g d' := by
    rw [hd.out]
    refine ⟨S4, ⟨gv, gq, go, gc, A4, B, n, c, C, ?_⟩, HS4.out, R4.out.then_ ws (fun i hi => .inr (by rw [hi, HZ0.out]; exact Nat.le_refl _))⟩
    have x5 := X4.out.wr ws NZ4.out
    rw [HM.out] at x5
    exact x5
  have ev := hv.out
  clear hv
  subst ev
  obtain ⟨x0, x1, x2, _, _, _⟩ := bs
  (try simp only [Exit.inBlock, Exit.then])
  refine bodyPost_ret (v := .agg #[.int .i64 d.self, .int .i64 d.inc, .int .i64 hs]) ?_ rfl ⟨rfl, Hid.mk_ DT⟩
  rw [results_cell1 rfl]
  go_simp
end Go.Proofs.YthndjhocmpelcaaGreat.Swi
namespace Go.Proofs.YthndjhocmpelcaaGreat.Swi
open Go.RowKit Kit Hth Tri3
set_option linter.unusedVariables false
/-- It refutes a claim of itself. -/
def dRef (d : Dt) (i h : Int) : Dt := if dbt d.inc i h then (if i = 1000000 then { d with over := true } else dSays { d with inc := i + 1 } 1) else d
theorem may_bounds {n i h : Int} (hm : true = mayC n i h) : 0 ≤ n ∧ n < 8 ∧ 0 ≤ i ∧ i ≤ 1000000 := by unfold mayC at hm; simp at hm; omega
set_option maxRecDepth 100000 in
set_option maxHeartbeats 4000000 in
theorem refutes (w : World) (S : Nat → Prop) (g : Nat) (d : Dt) (i h : Int) (hD : Hid (Det w S g d)) (hm : Hid (true = mayC d.self i h)) (d' : Dt) (hd : Hid (d' = dRef d i h)) (e0 : Int) (he : Hid (e0 = rfE d.inc i h)) :
    Calls Tryz.prog 62 #[.pointer (some ⟨g, 0, none⟩), .agg #[.int .i64 d.self, .int .i64 i, .int .i64 h]] w fun e w' => e = .returned (.int .i64 e0) ∧ Hid (DTurn w w' S g d') := by
  obtain ⟨gv, gq, go, gc, A, B, n, c, C, X⟩ := hD.out
  have HS := Hid.mk_ X.ok.self
  have HI := Hid.mk_ X.ok.inc
  have al := Hid.mk_ ((Below.refl w.heap.size w).alloc (Nat.le_refl _) (.cells #[.int .i64 d.self, .int .i64 i, .int .i64 h] 30))
  have bx := Hid.mk_ (Rum.Box3.made w d.self i h)
  have X1 := Hid.mk_ (X.below al.out)
  clear X
  obtain ⟨r, hr⟩ : ∃ r, r = rfI d.inc i h := ⟨_, rfl⟩
  have HR := Hid.mk_ hr
  clear hr
  go_enter Tryz.func62, Tryz.ntmps62
  go_upto_region 1 with fail
  generalize hz : w.heap.size = z at *
  have HZ := Hid.mk_ hz
  clear hz
  generalize w.alloc (.cells #[.int .i64 d.self, .int .i64 i, .int .i64 h] 30) = w1 at *
  have c0 : w1.cell? ⟨g, 0, none⟩ = some (.int .i64 d.self) := X1.out.dcs.cell 0
  have c1 : w1.cell? ⟨g, 1, none⟩ = some (.int .i64 d.inc) := X1.out.dcs.cell 1
  obtain ⟨x0, x1, x2, _, _, _⟩ := bx.out
  have lt1 := X1.out.dcs.lt
  have lt2 := bx.out.lt
  refine wp_draws _ (Below.refl _ _) (by kernel_rfl) (by kernel_rfl) (fun hne hN => ?_)
  repeat (go_big_quiet_step (first | (go_at_call 86; with_reducible exact After.calls (refute1 d.self d.inc i h _ HS HI hm r e0 HR he))))
  refine wpQuiet_nil (after_cells ?_)
  intro w2 b2 hc2
  have X2 := Hid.mk_ (X1.out.below b2)
  have B2 : Hid (Below w.heap.size w w2) := Hid.mk_ (by have h1 := al.out; rw [← HZ.out] at h1; exact h1.trans (b2.mono h1.size))
  clear c0 c1 x0 x1 x2 lt1 lt2 X1 bx al b2 hc2 hne hN
  cases hdb : dbt d.inc i h with
  | false =>
    have er : r = d.inc := by rw [HR.out]; unfold rfI; rw [hdb]; rfl
    have ee : e0 = 0 := by rw [he.out]; unfold rfE; rw [hdb]; rfl
    have ed : d' = d := by rw [hd.out]; unfold dRef; rw [hdb]; rfl
    subst er ee ed
    clear HR he hd hdb
    have c1 : w2.cell? ⟨g, 1, none⟩ = some (.int .i64 d'.inc) := X2.out.dcs.cell 1
    go_wp2_with fail
    go_ret
    exact ⟨rfl, Hid.mk_ (DTurn.of_below hD.out B2.out)⟩
  | true =>
    have hle : d.inc ≤ i := by unfold dbt at hdb; simp at hdb; exact hdb.2
    by_cases hmx : i = 1000000
    · have er : r = d.inc := by rw [HR.out]; unfold rfI; rw [hdb, if_pos rfl, if_pos hmx]
      have ee : e0 = 6 := by rw [he.out]; unfold rfE; rw [hdb, if_pos rfl, if_pos hmx]
      have ed : d' = { d with over := true } := by rw [hd.out]; unfold dRef; rw [hdb, if_pos rfl, if_pos hmx]
      subst er ee
      clear HR he hd hdb hmx hle
      have c9 : w2.cell? ⟨g, 9, none⟩ = some (.bool d.over) := X2.out.dcs.cell 9
      have f9 : w2.frozen? ⟨g, 9, none⟩ = false := X2.out.dcs.fr 9
      have HED := Hid.mk_ ed
      clear ed
      go_wp2_with fail
      go_ret
      have ws := Rum.Wr.set w2 g 9 (.bool true)
      refine ⟨rfl, Hid.mk_ ?_⟩
      rw [HED.out]
      have x3 := X2.out.turnD ws (X2.out.dcs.set 9 (.bool true) { d with over := true } rfl) ⟨X2.out.ok.self, X2.out.ok.inc, X2.out.ok.now, X2.out.ok.seq, X2.out.ok.asked⟩ ⟨rfl, rfl, rfl, rfl, rfl, rfl⟩
      exact ⟨S, ⟨gv, gq, go, gc, A, B, n, c, C, x3⟩, fun k hk => .inl hk, (Rum.Wr.of_below B2.out S).then_ ws (fun i hi => .inl (by rw [hi]; exact X2.out.sg))⟩
    · have er : r = i + 1 := by rw [HR.out]; unfold rfI; rw [hdb, if_pos rfl, if_neg hmx]
      have ee : e0 = 0 := by rw [he.out]; unfold rfE; rw [hdb, if_pos rfl, if_neg hmx]
      have ed : d' = dSays { d with inc := i + 1 } 1 := by rw [hd.out]; unfold dRef; rw [hdb, if_pos rfl, if_neg hmx]
      have hib := may_bounds hm.out
      have hlt : d.inc < i + 1 := by omega
      have hlt2 : decide (d.inc < i + 1) = true := decide_eq_true hlt
      have OK1 : Hid ({ d with inc := i + 1 } : Dt).Ok := Hid.mk_ ⟨X2.out.ok.self, ⟨by show (0 : Int) ≤ i + 1; omega, by show i + 1 ≤ 1000000; omega⟩, X2.out.ok.now, X2.out.ok.seq, X2.out.ok.asked⟩
      obtain ⟨j, hj⟩ : ∃ j, j = i + 1 := ⟨_, rfl⟩
      rw [← hj] at er ed hlt hlt2 OK1
      subst er ee
      have HED := Hid.mk_ ed
      clear HR he hd hdb hmx hle hj hib ed
      have c1 : w2.cell? ⟨g, 1, none⟩ = some (.int .i64 d.inc) := X2.out.dcs.cell 1
      have f1 : w2.frozen? ⟨g, 1, none⟩ = false := X2.out.dcs.fr 1
      go_upto_region 7 with fail
      have ws := Rum.Wr.set w2 g 1 (.int .i64 r)
      have x3 := X2.out.turnD ws (X2.out.dcs.set 1 (.int .i64 r) { d with inc := r } rfl) OK1.out ⟨rfl, rfl, rfl, rfl, rfl, rfl⟩
      have D3 : Hid (Det (w2.setCell ⟨g, 1, none⟩ (.int .i64 r)) S g { d with inc := r }) := Hid.mk_ ⟨gv, gq, go, gc, A, B, n, c, C, x3⟩
      have R3 : Hid (Rum.Wr w (w2.setCell ⟨g, 1, none⟩ (.int .i64 r)) S) := Hid.mk_ ((Rum.Wr.of_below B2.out S).then_ ws (fun i hi => .inl (by rw [hi]; exact X2.out.sg)))
      clear c1 f1 X2 B2 ws x3
      generalize w2.setCell ⟨g, 1, none⟩ (.int .i64 r) = w3 at *
      go_wp2_with (go_at_call 40; refine (says w3 S g { d with inc := r } 1 D3 d' HED _ (Hid.mk_ rfl)).mono ?_; rintro e w4 ⟨rfl, t4⟩)
      go_ret
      refine ⟨rfl, Hid.mk_ ?_⟩
      obtain ⟨S4, h4, k4, r4⟩ := t4.out
      exact ⟨S4, h4, fun k hk => (k4 k hk).elim .inl (fun h => .inr (Nat.le_trans R3.out.size h)), R3.out.then_ r4 (fun i hi => .inl hi)⟩
end Go.Proofs.YthndjhocmpelcaaGreat.Swi
namespace Go.Proofs.YthndjhocmpelcaaGreat.Swi
open Go.RowKit Kit Hth Tri3
set_option linter.unusedVariables false
/-- It hears a claim that may be. -/
def dHears (d : Dt) (c : Cl) : Dt :=
  if c.n = d.self then dRef d c.i c.h
  else if Bel.hearB d.p d.q c.n c.i c.h then { dHeard d c with L := Rum.putQ c d.L, M := if c.h = 2 then Wat.setLq (100 + c.n) (d.now + 6) d.M else Wat.without (100 + c.n) d.M }
  else d
def heE (d : Dt) (c : Cl) : Int := if c.n = d.self then rfE d.inc c.i c.h else 0
theorem DTurn.after {w w1 w2 : World} {S : Nat → Prop} {g : Nat} {d : Dt} (h : Rum.Wr w w1 S) {S1 : Nat → Prop} (hS : ∀ k, S1 k → S k ∨ w.heap.size ≤ k) (k : DTurn w1 w2 S1 g d) : DTurn w w2 S g d := by
  obtain ⟨S4, h4, k4, r4⟩ := k
  exact ⟨S4, h4, fun i hi => (k4 i hi).elim (hS i) (fun h1 => .inr (Nat.le_trans h.size h1)), h.then_ r4 hS⟩
set_option maxRecDepth 100000 in
set_option maxHeartbeats 8000000 in
theorem hears (w : World) (S : Nat → Prop) (g : Nat) (d : Dt) (c : Cl) (hD : Hid (Det w S g d)) (hm : Hid (true = mayC c.n c.i c.h)) (d' : Dt) (hd : Hid (d' = dHears d c)) (e0 : Int) (he : Hid (e0 = heE d c)) :
    Calls Tryz.prog 36 #[.pointer (some ⟨g, 0, none⟩), .agg #[.int .i64 c.n, .int .i64 c.i, .int .i64 c.h]] w fun e w' => e = .returned (.int .i64 e0) ∧ Hid (DTurn w w' S g d') := by
  obtain ⟨gv, gq, go, gc, A, B, n, cc, C, X⟩ := hD.out
  have al := Hid.mk_ ((Below.refl w.heap.size w).alloc (Nat.le_refl _) (.cells #[.int .i64 c.n, .int .i64 c.i, .int .i64 c.h] 30))
  have bx := Hid.mk_ (Rum.Box3.made w c.n c.i c.h)
  have NS := Hid.mk_ X.blk
  have X1 := Hid.mk_ (X.below al.out)
  clear X
  go_enter Tryz.func36, Tryz.ntmps36
  go_upto_region 1 with fail
  obtain ⟨z, hz⟩ : ∃ z, z = w.heap.size := ⟨_, rfl⟩
  have HZ := Hid.mk_ hz
  rw [← hz] at bx ⊢
  have NZ : Hid (∀ k, S k → k < z) := Hid.mk_ (fun k hk => by have := NS.out k hk; omega)
  clear hz
  generalize w.alloc (.cells #[.int .i64 c.n, .int .i64 c.i, .int .i64 c.h] 30) = w1 at *
  have c0 : w1.cell? ⟨g, 0, none⟩ = some (.int .i64 d.self) := X1.out.dcs.cell 0
  obtain ⟨x0, x1, x2, _, _, _⟩ := bx.out
  have lt1 := X1.out.dcs.lt
  have lt2 := bx.out.lt
  go_region
  have dr : Below w1.heap.size w1 w1.drew := (Below.refl _ _).drew
  have X2 := Hid.mk_ (X1.out.below dr)
  have BQ2 := Hid.mk_ (box3k bx.out dr)
  have B2 := Hid.mk_ (al.out.drew)
  clear c0 x0 x1 x2 lt1 lt2 X1 bx al dr
  generalize w1.drew = w2 at *
  by_cases hs : c.n = d.self
  · have hsb : (c.n == d.self) = true := by simp [hs]
    have ed : d' = dRef d c.i c.h := by rw [hd.out]; unfold dHears; rw [if_pos hs]
    have ee : Hid (e0 = rfE d.inc c.i c.h) := Hid.mk_ (by rw [he.out]; unfold heE; rw [if_pos hs])
    have D2 : Hid (Det w2 S g d) := Hid.mk_ ⟨gv, gq, go, gc, A, B, n, cc, C, X2.out⟩
    obtain ⟨x0, x1, x2, _, _, _⟩ := BQ2.out
    have HED := Hid.mk_ ed
    rw [hs] at x0
    have hm2 : Hid (true = mayC d.self c.i c.h) := Hid.mk_ (by rw [← hs]; exact hm.out)
    clear hd he ed hs X2
    go_wp2_with (go_at_call 62; refine (refutes w2 S g d c.i c.h D2 hm2 d' HED e0 ee).mono ?_; rintro e w4 ⟨rfl, t4⟩)
    go_ret
    exact ⟨rfl, Hid.mk_ (DTurn.after (Rum.Wr.of_below B2.out S) (fun k hk => .inl hk) t4.out)⟩
  · have hsb : (c.n == d.self) = false := by simp [hs]
    have ee : e0 = 0 := by rw [he.out]; unfold heE; rw [if_neg hs]
    have ed : d' = if Bel.hearB d.p d.q c.n c.i c.h then { dHeard d c with L := Rum.putQ c d.L, M := if c.h = 2 then Wat.setLq (100 + c.n) (d.now + 6) d.M else Wat.without (100 + c.n) d.M } else d := by rw [hd.out]; unfold dHears; rw [if_neg hs]
    subst ee
    have HED := Hid.mk_ ed
    clear hd he ed hs
    have c2 : w2.cell? ⟨g, 2, none⟩ = some (.pointer (some ⟨gv, 0, none⟩)) := X2.out.dcs.cell 2
    obtain ⟨x0, x1, x2, _, _, _⟩ := BQ2.out
    obtain ⟨hb, hhb⟩ : ∃ hb, hb = Bel.hearB d.p d.q c.n c.i c.h := ⟨_, rfl⟩
    have HHB := Hid.mk_ hhb
    clear hhb
    have NG : Hid (¬ z = gv) := Hid.mk_ (fun e => by have := NZ.out gv X2.out.sv; omega)
    have hcon : Calls Tryz.prog 30 #[.pointer (some ⟨gv, 0, none⟩), .agg #[.int .i64 c.n, .int .i64 c.i, .int .i64 c.h]] w2.drew fun e w' => e = .returned (.bool hb) ∧ Hid (Bel.Vw w' gv (Bel.upd d.p c.n c.i (Bel.hearB d.p d.q c.n c.i c.h)) (Bel.upd d.q c.n c.h (Bel.hearB d.p d.q c.n c.i c.h))) ∧ Hid (w2.drew.grownBy w' (some gv)) := by
      refine (Bel.hear0 d.p d.q gv c.n c.i c.h w2.drew (X2.out.below (Below.refl _ _).drew).vw).mono ?_
      rintro e w' ⟨rfl, h1, h2⟩
      exact ⟨by rw [HHB.out], Hid.mk_ h1, Hid.mk_ h2⟩
    go_upto_region 3 with fail
    go_region_held3 (fun w' => w'.cell? ⟨g, 2, none⟩ = some (.pointer (some ⟨gv, 0, none⟩)) ∧ w'.cell? ⟨z, 0, none⟩ = some (.int .i64 c.n) ∧ w'.cell? ⟨z, 1, none⟩ = some (.int .i64 c.i) ∧ w'.cell? ⟨z, 2, none⟩ = some (.int .i64 c.h)) (first | exact ⟨by assumption, by assumption, by assumption, by assumption⟩ | go_keep) (first
      | (go_at_call 30; refine hcon.mono ?_; rintro e w3 ⟨rfl, hv3, hg3⟩; have r3 := Rum.Wr.of_gb hg3.out; have s2 := r3.cell (by exact c2) X2.out.ne.1; have s3 := r3.cell (by exact x0) NG.out; have s4 := r3.cell (by exact x1) NG.out; have s5 := r3.cell (by exact x2) NG.out)
      | fail)
    have dr : Below w2.heap.size w2 w2.drew := (Below.refl _ _).drew
    have X3 := Hid.mk_ ((X2.out.below dr).heard c hv3.out hg3.out)
    have R3 : Hid (Rum.Wr w w3 S) := Hid.mk_ (((Rum.Wr.of_below B2.out S).then_ (Rum.Wr.of_below dr (fun _ => False)) (fun _ h => h.elim)).then_ r3 (fun i hi => .inl (by rw [hi]; exact X2.out.sv)))
    have BQ3 := Hid.mk_ (box3w (box3k BQ2.out dr) r3 NG.out)
    clear c2 x0 x1 x2 s2 s3 s4 s5 X2 BQ2 B2 hv3 hg3 r3 dr hcon
    cases hb with
    | false =>
      have ed : d' = d := by rw [HED.out, ← HHB.out]; rfl
      have ex : dHeard d c = d := by unfold dHeard; rw [← HHB.out, Bel.upd_false, Bel.upd_false]
      subst ed
      go_wp2_with fail
      go_ret
      have x3 := X3.out
      rw [ex] at x3
      exact ⟨rfl, Hid.mk_ ⟨S, ⟨gv, gq, go, gc, A, B, n, cc, C, x3⟩, fun k hk => .inl hk, R3.out⟩⟩
    | true =>
      have ed : d' = { dHeard d c with L := Rum.putQ c d.L, M := if c.h = 2 then Wat.setLq (100 + c.n) (d.now + 6) d.M else Wat.without (100 + c.n) d.M } := by rw [HED.out, ← HHB.out]; rfl
      clear HED HHB
      have HED := Hid.mk_ ed
      clear ed
      obtain ⟨x0, x1, x2, _, _, _⟩ := BQ3.out
      have c3 : w3.cell? ⟨g, 3, none⟩ = some (.pointer (some ⟨gq, 0, none⟩)) := X3.out.dcs.cell 3
      have QD : Hid (Rum.Que w3 gq 3 A d.L) := Hid.mk_ X3.out.qu
      obtain ⟨M, hM⟩ : ∃ M, M = Rum.putQ c d.L := ⟨_, rfl⟩
      have HM := Hid.mk_ hM
      clear hM
      have NQ : Hid (¬ Rum.Its gq A z) := Hid.mk_ (fun e => by have := NZ.out z (X3.out.sq z e); omega)
      go_upto_region 5 with fail
      go_region_held3 (fun w' => w'.cell? ⟨g, 3, none⟩ = some (.pointer (some ⟨gq, 0, none⟩)) ∧ w'.cell? ⟨z, 0, none⟩ = some (.int .i64 c.n) ∧ w'.cell? ⟨z, 1, none⟩ = some (.int .i64 c.i) ∧ w'.cell? ⟨z, 2, none⟩ = some (.int .i64 c.h)) (first | exact ⟨by assumption, by assumption, by assumption, by assumption⟩ | go_keep) (first
        | (go_at_call 63; refine (Rum.put0 w3.drew gq 3 A d.L c (by exact Hid.mk_ (QD.out.below (Below.refl _ _).drew)) _ (Hid.mk_ rfl) M HM).mono ?_; rintro e w4 ⟨rfl, t4⟩; have r4 := turnWr t4.out; have s2 := r4.cell (by exact c3) X3.out.ne.2.1; have s3 := r4.cell (by exact x0) NQ.out; have s4 := r4.cell (by exact x1) NQ.out; have s5 := r4.cell (by exact x2) NQ.out)
        | fail)
      have dr : Below w3.heap.size w3 w3.drew := (Below.refl _ _).drew
      obtain ⟨A4, S4, x4, hS4, rS4⟩ := (X3.out.below dr).turnQ t4.out
      have X4 := Hid.mk_ x4
      have R4 : Hid (Rum.Wr w w4 S) := Hid.mk_ ((R3.out.then_ (Rum.Wr.of_below dr (fun _ => False)) (fun _ h => h.elim)).then_ rS4 (fun i hi => .inl hi))
      have BQ4 := Hid.mk_ (box3w (box3k BQ3.out dr) r4 NQ.out)
      have NZ4 : Hid (∀ k, S4 k → ¬ k = z) := Hid.mk_ (fun k hk e => by
        subst e
        rcases hS4 k hk with h1 | h1
        · have := NZ.out k h1; omega
        · have := (box3k BQ3.out dr).lt; omega)
      have HS4 : Hid (∀ k, S4 k → S k ∨ w.heap.size ≤ k) := Hid.mk_ (fun k hk => by
        rcases hS4 k hk with h1 | h1
        · exact .inl h1
        · have := R3.out.size; have := dr.size; exact .inr (by omega))
      clear c3 x0 x1 x2 s2 s3 s4 s5 X3 BQ3 R3 x4 hS4 rS4 t4 r4 dr QD NQ
      obtain ⟨x0, x1, x2, _, _, _⟩ := BQ4.out
      have c5 : w4.cell? ⟨g, 5, none⟩ = some (.pointer (some ⟨gc, 0, none⟩)) := X4.out.dcs.cell 5
      have c6 : w4.cell? ⟨g, 6, none⟩ = some (.int .i64 d.now) := X4.out.dcs.cell 6
      have CK : Hid (Wat.Clk w4 gc C d.M) := Hid.mk_ X4.out.ck
      have NC : Hid (¬ Wat.Its gc C z) := Hid.mk_ (fun e => NZ4.out z (X4.out.sc z e) rfl)
      have hn8 := may_bounds hm.out
      have hnw := X4.out.ok.now
      have hw1 : IntKind.i64.wrap (100 + c.n) = 100 + c.n := IntWalk.i64_in _ (by omega)
      have hw2 : IntKind.i64.wrap (d.now + 6) = d.now + 6 := IntWalk.i64_in _ (by have : 0 ≤ d.now ∧ d.now ≤ 1000000 := hnw; omega)
      clear hn8 hnw
      obtain ⟨MC, hMC⟩ : ∃ MC, MC = if c.h = 2 then Wat.setLq (100 + c.n) (d.now + 6) d.M else Wat.without (100 + c.n) d.M := ⟨_, rfl⟩
      have HMC := Hid.mk_ hMC
      clear hMC
      by_cases h2 : c.h = 2
      · have h2b : (c.h == 2) = true := by simp [h2]
        have HMC2 : Hid (MC = Wat.setLq (100 + c.n) (d.now + 6) d.M) := Hid.mk_ (by rw [HMC.out, if_pos h2])
        go_upto_region 7 with fail
        go_region_held3 (fun w' => w'.cell? ⟨g, 5, none⟩ = some (.pointer (some ⟨gc, 0, none⟩)) ∧ w'.cell? ⟨g, 6, none⟩ = some (.int .i64 d.now) ∧ w'.cell? ⟨z, 0, none⟩ = some (.int .i64 c.n)) (first | exact ⟨by assumption, by assumption, by assumption⟩ | go_keep) (first
          | (go_at_call 52; refine (Wat.set0 w4.drew gc C d.M (100 + c.n) (d.now + 6) (by exact Hid.mk_ (CK.out.below (Below.refl _ _).drew)) _ (Hid.mk_ rfl) MC HMC2).mono ?_; rintro e w5 ⟨rfl, t5⟩; have r5 := turnWrC t5.out; have s2 := r5.cell (by exact c5) X4.out.ne.2.2.1; have s3 := r5.cell (by exact c6) X4.out.ne.2.2.1; have s4 := r5.cell (by exact x0) NC.out)
          | fail)
        go_wp2_with fail
        go_ret
        have dr : Below w4.heap.size w4 w4.drew := (Below.refl _ _).drew
        obtain ⟨C5, S5, x5, hS5, rS5⟩ := (X4.out.below dr).turnC t5.out
        refine ⟨rfl, Hid.mk_ ?_⟩
        rw [HED.out, ← HMC.out, ← HM.out]
        exact DTurn.after R4.out HS4.out ⟨S5, ⟨gv, gq, go, gc, A4, B, n, cc, C5, x5⟩, fun k hk => (hS5 k hk).elim .inl (fun h => .inr (Nat.le_trans dr.size h)), (Rum.Wr.of_below dr S4).then_ rS5 (fun i hi => .inl hi)⟩
      · have h2b : (c.h == 2) = false := by simp [h2]
        have HMC2 : Hid (MC = Wat.without (100 + c.n) d.M) := Hid.mk_ (by rw [HMC.out, if_neg h2])
        go_upto_region 8 with fail
        go_region_held3 (fun w' => w'.cell? ⟨g, 5, none⟩ = some (.pointer (some ⟨gc, 0, none⟩)) ∧ w'.cell? ⟨z, 0, none⟩ = some (.int .i64 c.n)) (first | exact ⟨by assumption, by assumption⟩ | go_keep) (first
          | (go_at_call 64; refine (Wat.cut0 w4.drew gc C d.M (100 + c.n) (by exact Hid.mk_ (CK.out.below (Below.refl _ _).drew)) _ (Hid.mk_ rfl) MC HMC2).mono ?_; rintro e w5 ⟨rfl, t5⟩; have r5 := turnWrC t5.out; have s2 := r5.cell (by exact c5) X4.out.ne.2.2.1; have s4 := r5.cell (by exact x0) NC.out)
          | fail)
        go_wp2_with fail
        go_ret
        have dr : Below w4.heap.size w4 w4.drew := (Below.refl _ _).drew
        obtain ⟨C5, S5, x5, hS5, rS5⟩ := (X4.out.below dr).turnC t5.out
        refine ⟨rfl, Hid.mk_ ?_⟩
        rw [HED.out, ← HMC.out, ← HM.out]
        exact DTurn.after R4.out HS4.out ⟨S5, ⟨gv, gq, go, gc, A4, B, n, cc, C5, x5⟩, fun k hk => (hS5 k hk).elim .inl (fun h => .inr (Nat.le_trans dr.size h)), (Rum.Wr.of_below dr S4).then_ rS5 (fun i hi => .inl hi)⟩
end Go.Proofs.YthndjhocmpelcaaGreat.Swi
