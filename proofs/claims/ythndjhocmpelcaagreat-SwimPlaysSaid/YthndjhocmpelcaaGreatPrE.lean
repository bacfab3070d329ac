/- Chapter 4: an order: whom to ask next, who is left. Conditions: the order lies in a block of its own, and its row in another. -/
import Derived.Test.YthndjhocmpelcaaGreatPrD
namespace Go.Proofs.YthndjhocmpelcaaGreat.Prb
open Go.RowKit Kit
set_option linter.unusedVariables false
/-- An order at block g: me; its row from A on. -/
structure Odr (w : World) (g : Nat) (me : Int) (A : Option Addr) (n c : Nat) (zs : List Int) : Prop where
  cell0 : w.cell? ⟨g, 0, none⟩ = some (.int .i64 me)
  cell1 : w.cell? ⟨g, 1, none⟩ = some (.slice A n c)
  fr : w.frozen? ⟨g, 1, none⟩ = false
  len : n = zs.length
  cap : n ≤ c
  max : c ≤ 9223372036854775807
  row : (A = none ∧ c = 0) ∨ ∃ b off, A = some ⟨b, off, none⟩ ∧ b ≠ g ∧ b < w.heap.size ∧ At w b off zs
theorem Odr.lt {w : World} {g : Nat} {me : Int} {A : Option Addr} {n c : Nat} {zs : List Int} (h : Odr w g me A n c zs) : g < w.heap.size := World.block_lt_of_cell? w _ h.cell0
theorem At.keep {w w' : World} {b off : Nat} {zs : List Int} (h : At w b off zs) (hb : w'.heap[b]? = w.heap[b]?) : At w' b off zs := fun j x hx => by
  obtain ⟨h1, h2⟩ := h j x hx
  exact ⟨by rw [← h1]; simp [World.cell?, hb], by rw [← h2]; simp [World.frozen?, hb]⟩
theorem Odr.wr {w w' : World} {S : Nat → Prop} {g : Nat} {me : Int} {A : Option Addr} {n c : Nat} {zs : List Int} (h : Odr w g me A n c zs) (hw : Wr w w' S) (hg : ¬ S g) (hA : ∀ b off, A = some ⟨b, off, none⟩ → ¬ S b) : Odr w' g me A n c zs :=
  ⟨hw.cell h.cell0 hg, hw.cell h.cell1 hg, (hw.frozen h.lt hg).trans h.fr, h.len, h.cap, h.max, by
    rcases h.row with h1 | ⟨b, off, e, h1, h2, h3⟩
    · exact .inl h1
    · exact .inr ⟨b, off, e, h1, Nat.lt_of_lt_of_le h2 hw.size, h3.keep (hw.block b h2 (hA b off e))⟩⟩
theorem Odr.below {w w' : World} {g : Nat} {me : Int} {A : Option Addr} {n c : Nat} {zs : List Int} (h : Odr w g me A n c zs) (hw : Below w.heap.size w w') : Odr w' g me A n c zs :=
  h.wr (Wr.of_below hw (fun _ => False)) (fun h => h) (fun _ _ _ h => h)
theorem Odr.readable {w : World} {g : Nat} {me : Int} {A : Option Addr} {n c : Nat} {zs : List Int} (h : Odr w g me A n c zs) : Row w A zs := by
  rcases h.row with ⟨rfl, h1⟩ | ⟨b, off, rfl, h1, h2, h3⟩
  · have := h.len; have := h.cap
    obtain rfl := List.eq_nil_of_length_eq_zero (show zs.length = 0 by omega)
    exact Row.nil _ _
  · exact h3.row
/-- Which blocks an order's calls may write. -/
def Its (g : Nat) (A : Option Addr) : Nat → Prop := fun k => k = g ∨ ∃ off, A = some ⟨k, off, none⟩
theorem new (me : Int) (w : World) : Calls Tryz.prog 28 #[.int .i64 me] w fun e w' => ∃ g, e = .returned (.pointer (some ⟨g, 0, none⟩)) ∧ Hid (g = w.heap.size) ∧ Hid (Odr w' g me none 0 0 []) ∧ Below w.heap.size w w' := by
  go_enter Tryz.func28, Tryz.ntmps28
  go_wp2_with fail
  go_ret
  refine ⟨_, rfl, Hid.mk_ rfl, Hid.mk_ ?_, by go_grown⟩
  refine ⟨?_, ?_, ?_, rfl, Nat.le_refl _, by omega, .inl ⟨rfl, rfl⟩⟩
  · rw [World.cell?_alloc_new]; rfl
  · rw [World.cell?_alloc_new]; rfl
  · exact frozen_of_row _ _ _ _ _ (heap_alloc_new w _)
/-- Who is asked, and then who is left, behind one who there is. -/
def pick (l zs : List Int) (d : Int) : List Int := if kept l zs = [] then shuf l.length d l else kept l zs
def nxt (me : Int) (ps zs : List Int) (d : Int) : Int × List Int := if br me ps 8 = [] then (-1, zs) else ((pick (br me ps 8) zs d).headD 0, (pick (br me ps 8) zs d).tail)
def Nexted (w : World) (g : Nat) (me : Int) (A : Option Addr) (r : Int × List Int) (e : Ending) (w' : World) : Prop :=
  e = .returned (.int .i64 r.1) ∧ ∃ A' n' c', Hid (Odr w' g me A' n' c' r.2) ∧ (∀ b off, A' = some ⟨b, off, none⟩ → (∃ off', A = some ⟨b, off', none⟩) ∨ w.heap.size ≤ b) ∧ Wr w w' (Its g A)
/-- A new row is written into an order. -/
theorem Odr.put {w : World} {g : Nat} {me : Int} {v : Value} {A : Option Addr} {n c : Nat} {zs : List Int} (h0 : w.cell? ⟨g, 0, none⟩ = some (.int .i64 me)) (h1 : w.cell? ⟨g, 1, none⟩ = some v) (hf : w.frozen? ⟨g, 1, none⟩ = false) (len : n = zs.length) (cap : n ≤ c) (max : c ≤ 9223372036854775807)
    (row : (A = none ∧ c = 0) ∨ ∃ b off, A = some ⟨b, off, none⟩ ∧ b ≠ g ∧ b < w.heap.size ∧ At w b off zs) : Odr (w.setCell ⟨g, 1, none⟩ (.slice A n c)) g me A n c zs := by
  refine ⟨?_, World.cell?_setCell_same _ _ _ h1, (World.frozen?_setCell _ _ _ _).trans hf, len, cap, max, ?_⟩
  · rw [World.cell?_setCell_other _ _ _ _ (by simp)]; exact h0
  · rcases row with h | ⟨b, off, e, hb, hlt, ha⟩
    · exact .inl h
    · exact .inr ⟨b, off, e, hb, by simpa [World.setCell] using hlt, ha.keep (Below.heap_setCell _ _ _ _ (fun e => hb e))⟩
theorem Wr.set (w : World) (g o : Nat) (v : Value) : Wr w (w.setCell ⟨g, o, none⟩ v) (fun k => k = g) :=
  ⟨rfl, rfl, rfl, by simp [World.setCell], fun k hk hne => Below.heap_setCell _ _ _ _ hne⟩
/-- Who is not there any more is struck. -/
theorem strike {w : World} {g : Nat} {me : Int} {A : Option Addr} {n c : Nat} {zs : List Int} (h : Hid (Odr w g me A n c zs)) (Al : Option Addr) (m cl : Nat) (ls : List Int) (B : Nat) (hB : w.cell? ⟨B, 0, none⟩ = some (.slice Al m cl)) (hBA : ∀ off, A ≠ some ⟨B, off, none⟩)
    (hr : Hid (Row w Al ls)) (hn : Hid (m = ls.length)) (hm : m ≤ 9223372036854775807) (hA : Hid (∀ b off off', Al = some ⟨b, off, none⟩ → A ≠ some ⟨b, off', none⟩)) :
    Calls Tryz.prog 75 #[.slice A n c, .func (.func 76) #[] #[.pointer (some ⟨B, 0, none⟩)]] w fun e w' => ∃ k, e = .returned (.slice A k c) ∧ Hid (k = (kept ls zs).length) ∧ k ≤ n ∧
      Hid ((A = none ∧ c = 0) ∨ ∃ b off, A = some ⟨b, off, none⟩ ∧ b ≠ g ∧ b < w'.heap.size ∧ At w' b off (kept ls zs)) ∧ Hid (Wr w w' (fun k => ∃ off, A = some ⟨k, off, none⟩)) := by
  have h := h.out
  have hl := h.len
  have hc := h.cap
  have hx := h.max
  rcases h.row with ⟨rfl, rfl⟩ | ⟨b, off, rfl, h1, h2, h3⟩
  · obtain rfl : n = 0 := by omega
    obtain rfl := List.eq_nil_of_length_eq_zero hl.symm
    refine (delete_nil (.nilFunc) w B).mono ?_
    rintro e w' ⟨rfl, rfl⟩
    exact ⟨0, rfl, rfl, Nat.le_refl _, Hid.mk_ (.inl ⟨rfl, rfl⟩), Hid.mk_ ⟨rfl, rfl, rfl, Nat.le_refl _, fun _ _ _ => rfl⟩⟩
  · subst hl
    refine (delete0 b off c zs Al m cl ls B w h3 hc (by omega) hB (fun e => hBA off (by rw [e])) hr.out hn.out hm (fun b' off' e e2 => hA.out b' off' off e (by rw [e2]))).mono ?_
    rintro e w' ⟨rfl, ha, hw⟩
    refine ⟨_, rfl, Hid.mk_ rfl, kept_len _ _, Hid.mk_ (.inr ⟨b, off, rfl, h1, Nat.lt_of_lt_of_le h2 hw.size, ha⟩), Hid.mk_ ⟨hw.os, hw.tape, hw.output, hw.size, fun k hk hne => hw.block k hk (fun e => hne ⟨off, by rw [e]⟩)⟩⟩
theorem Odr.fin {w : World} {g : Nat} {me : Int} {b off n c : Nat} {y : Int} {ys : List Int} (O : Odr w g me (some ⟨b, off, none⟩) n c (y :: ys)) (off' n' c' : Nat) (ho : off' = off + 1 ∨ c ≤ 1) (hn : n' = n - 1) (hc : c' = c - 1) : Odr (w.setCell ⟨g, 1, none⟩ (.slice (some ⟨b, off', none⟩) n' c')) g me (some ⟨b, off', none⟩) n' c' ys := by
  subst hn hc
  have hl := O.len
  have hcap := O.cap
  have hmax := O.max
  simp at hl
  refine Odr.put O.cell0 O.cell1 O.fr (by omega) (by omega) (by omega) ?_
  rcases O.row with ⟨e, _⟩ | ⟨b', off2, e, h1, h2, h3⟩
  · cases e
  · injection e with e
    injection e with e1 e2
    subst e1 e2
    refine .inr ⟨b, off', rfl, h1, h2, fun j x hx => ?_⟩
    rcases ho with rfl | ho
    · have := h3 (j + 1) x hx
      rwa [show off + (j + 1) = off + 1 + j by omega] at this
    · have : ys.length = 0 := by omega
      have := (List.getElem?_eq_some_iff.1 hx).1
      omega
set_option maxHeartbeats 2000000 in
theorem next {w : World} {g : Nat} {me : Int} {A : Option Addr} {n c : Nat} {zs : List Int} (h : Hid (Odr w g me A n c zs)) (Ap : Option Addr) (np cp : Nat) (ps : List Int) (hp : Hid (Row w Ap ps)) (hn : Hid (np = ps.length)) (hm : np ≤ 9223372036854775807) (d : Int) (hd : Hid (0 ≤ d)) :
    Calls Tryz.prog 51 #[.pointer (some ⟨g, 0, none⟩), .slice Ap np cp, .int .u64 d] w (Nexted w g me A (nxt me ps zs d)) := by
  have hg := h.out.lt
  go_enter Tryz.func51, Tryz.ntmps51
  go_wp2_with fail
  refine (brought g me Ap np cp ps _ (Hid.mk_ h.out.cell0) hp hn hm).mono ?_
  rintro e w1 ⟨Al, cl, rfl, hown, hb1⟩
  have O1 := h.out.below hb1
  have hl8 := br_len me ps 8
  obtain ⟨l, hl⟩ : ∃ l, br me ps 8 = l := ⟨_, rfl⟩
  have HL := Hid.mk_ hl
  rw [hl] at hown hl8 ⊢
  clear hl
  obtain ⟨m, em⟩ : ∃ m, m = l.length := ⟨_, rfl⟩
  rw [← em] at hown hl8 ⊢
  have EM := Hid.mk_ em
  clear em
  obtain ⟨-, rl, -⟩ := hown.row
  obtain ⟨hmc, hcm⟩ := hown.bounds
  have hAl : ∀ b off, Al = some ⟨b, off, none⟩ → w.heap.size ≤ b ∧ b < w1.heap.size := hown.block
  go_upto_region 4 with fail
  have a1 : Below w1.heap.size w1 (w1.alloc (.cells #[.slice Al m cl] 36)) := (Below.refl _ _).alloc (Nat.le_refl _) _
  have c2 : (w1.alloc (.cells #[.slice Al m cl] 36)).cell? ⟨w1.heap.size, 0, none⟩ = some (.slice Al m cl) := by rw [World.cell?_alloc_new]; rfl
  have O2 := Hid.mk_ (O1.below a1)
  have R2 := Hid.mk_ (rl.below a1)
  have z1 := hb1.size
  have z2 : w1.heap.size < (w1.alloc (.cells #[.slice Al m cl] 36)).heap.size := by simp
  have b2 := Hid.mk_ (hb1.trans (a1.mono z1))
  clear hown O1 rl hb1 a1
  generalize (w1.alloc (.cells #[.slice Al m cl] 36)) = w2 at *
  have hgB : g < w1.heap.size := by omega
  have hAB : ∀ off, A ≠ some ⟨w1.heap.size, off, none⟩ := fun off e => by
    rcases h.out.row with ⟨rfl, _⟩ | ⟨b, off, rfl, h1, h2, h3⟩
    · cases e
    · injection e with e; injection e with e; omega
  generalize w1.heap.size = B at *
  by_cases hl0 : m = 0
  · subst hl0
    obtain rfl := List.eq_nil_of_length_eq_zero EM.out.symm
    have e0 : nxt me ps zs d = (-1, zs) := by unfold nxt; rw [if_pos HL.out]
    go_wp2_with fail
    go_ret
    rw [e0]
    refine ⟨rfl, A, n, c, O2, fun b off e => .inl ⟨off, e⟩, Wr.of_below b2.out _⟩
  · have e0 : nxt me ps zs d = ((pick l zs d).headD 0, (pick l zs d).tail) := by
      unfold nxt; rw [HL.out, if_neg (fun e => hl0 (by rw [EM.out, e]; rfl))]
    have E0 := Hid.mk_ e0
    clear e0
    have c1 := O2.out.cell1
    go_wp2_with fail
    refine (strike O2 Al m cl l B c2 hAB R2 EM (by omega) (Hid.mk_ fun b off off' e1 e2 => ?_)).mono ?_
    · have h1 := (hAl b off e1).1
      rcases h.out.row with ⟨e3, _⟩ | ⟨b', off2, e3, _, h3, _⟩
      · rw [e3] at e2; cases e2
      · rw [e3] at e2; injection e2 with e2; injection e2 with e2; omega
    rintro e w3 ⟨k, rfl, ek, hkn, row3, wr3⟩
    have hgA : ¬ ∃ off, A = some ⟨g, off, none⟩ := by
      rintro ⟨off, e⟩
      rcases h.out.row with ⟨e3, _⟩ | ⟨b', off2, e3, h2, _⟩
      · rw [e3] at e; cases e
      · rw [e3] at e; injection e with e; injection e with e; exact h2 e
    have hBA : ¬ ∃ off, A = some ⟨B, off, none⟩ := fun ⟨off, e⟩ => hAB off e
    have hAlA : ∀ b off, Al = some ⟨b, off, none⟩ → ¬ ∃ off', A = some ⟨b, off', none⟩ := fun b off e1 ⟨off', e2⟩ => by
      have h1 := (hAl b off e1).1
      rcases h.out.row with ⟨e3, _⟩ | ⟨b', off2, e3, _, h3, _⟩
      · rw [e3] at e2; cases e2
      · rw [e3] at e2; injection e2 with e2; injection e2 with e2; omega
    have c03 := wr3.out.cell O2.out.cell0 hgA
    have c13 := wr3.out.cell O2.out.cell1 hgA
    have f13 := (wr3.out.frozen O2.out.lt hgA (o := 1)).trans O2.out.fr
    have c23 := wr3.out.cell c2 hBA
    have R3 := Hid.mk_ (wr3.out.row R2.out hAlA)
    have hcap := O2.out.cap
    have hmax := O2.out.max
    go_upto_region 7 with fail
    have O4 := Hid.mk_ (Odr.put c03 c13 f13 ek.out (by omega) hmax row3.out)
    have W4 : Wr w (w3.setCell ⟨g, 1, none⟩ (.slice A k c)) (Its g A) :=
      ((Wr.of_below b2.out _).then_ wr3.out (fun i hi => .inl (.inr hi))).then_ (Wr.set w3 g 1 _) (fun i hi => .inl (.inl hi))
    have c24 : (w3.setCell ⟨g, 1, none⟩ (.slice A k c)).cell? ⟨B, 0, none⟩ = some (.slice Al m cl) := by rw [World.cell?_setCell_other _ _ _ _ (by simp <;> omega)]; exact c23
    have R4 := Hid.mk_ ((Wr.set w3 g 1 (.slice A k c)).row R3.out (fun b off e h2 => by have := (hAl b off e).1; omega))
    clear c03 c13 f13 c23 R3 row3 wr3 c1 c2 R2 O2 b2
    generalize w3.setCell ⟨g, 1, none⟩ (.slice A k c) = w4 at *
    have c1 := O4.out.cell1
    have E1 : Hid (pick l zs d = if kept l zs = [] then shuf l.length d l else kept l zs) := rfl
    generalize kept l zs = ks at *
    by_cases hk0 : k = 0
    · subst hk0
      obtain rfl := List.eq_nil_of_length_eq_zero ek.out.symm
      have E2 := E1.out
      rw [if_pos rfl] at E2
      have E3 := Hid.mk_ E2
      clear E1 E2
      go_wp2_with fail
      refine (shuffle8 Al m cl l d _ R4 EM (by omega) hmc hd).mono ?_
      rintro e w5 ⟨A5, c5, rfl, hown5, hb5⟩
      have hrl := shuf_len l.length d l
      generalize shuf l.length d l = r at E3 hown5 hrl ⊢
      obtain ⟨n6, en⟩ : ∃ n, n = r.length := ⟨_, rfl⟩
      rw [← en] at hown5 hrl ⊢
      have EN := Hid.mk_ en
      have hn6 : n6 ≠ 0 := by have := EM.out; omega
      clear en hrl
      obtain ⟨hc5, hm5⟩ := hown5.bounds
      have hA5 : ∀ b off, A5 = some ⟨b, off, none⟩ → w4.heap.size ≤ b ∧ b < w5.heap.size := hown5.block
      have O5 := Hid.mk_ (O4.out.below hb5)
      have W5 := W4.then_ (Wr.of_below hb5 (fun _ => False)) (fun _ h => h.elim)
      have c15 := O5.out.cell1
      have f15 := O5.out.fr
      go_upto_region 9 with fail
      have g4 := O4.out.lt
      have O6 := Hid.mk_ (Odr.put (A := A5) (n := n6) (c := c5) (zs := r) O5.out.cell0 O5.out.cell1 O5.out.fr EN.out hc5 hm5 (by
        obtain ⟨g5, rfl, h1, h2, h3⟩ := Own.some_ hown5 (by have := EN.out; omega)
        exact .inr ⟨g5, 0, rfl, by omega, h2, fun j x hx => by rw [Nat.zero_add]; exact h3 j x hx⟩))
      have W6 := W5.then_ (Wr.set w5 g 1 (.slice A5 n6 c5)) (fun i hi => .inl (.inl hi))
      have hb6 : ∀ b off, A5 = some ⟨b, off, none⟩ → (∃ off', A = some ⟨b, off', none⟩) ∨ w.heap.size ≤ b := fun b off e => .inr (Nat.le_trans W4.size (hA5 b off e).1)
      clear hown5 c15 f15 W5 W4 O5 O4
      generalize w5.setCell ⟨g, 1, none⟩ (.slice A5 n6 c5) = w6 at *
      rcases O6.out.row with ⟨-, e⟩ | ⟨b6, off6, rfl, h1, h2, h3⟩
      · have := O6.out.cap
        omega
      · cases r with
        | nil => exact absurd O6.out.len (by simp; omega)
        | cons y ys =>
          have cy : w6.cell? ⟨b6, off6, none⟩ = some (.int .i64 y) := by simpa using (h3 0 y rfl).1
          have H3 := Hid.mk_ h3
          have c61 := O6.out.cell1
          have c60 := O6.out.cell0
          have f61 := O6.out.fr
          have cap6 := O6.out.cap
          have i1 : (0 : Int) < (n6 : Int) := by omega
          have i2 : (1 : Int) ≤ (n6 : Int) := by omega
          have i3 : (1 : Int) ≤ (c5 : Int) := by omega
          have i4 : (n6 : Int) ≤ (c5 : Int) := by omega
          clear h3
          go_wp2_with fail
          · go_ret
            exact ⟨by rw [E0.out, E3.out]; rfl, _, _, _, Hid.mk_ (by rw [E0.out, E3.out]; exact O6.out.fin off6 (n6 - 1) 0 (.inr (by omega)) rfl (by omega)), fun b off e => (by injection e with e; injection e with e1 e2; subst e1; exact hb6 _ off6 rfl), W6.then_ (Wr.set w6 g 1 _) (fun i hi => .inl (.inl hi))⟩
          · go_ret
            exact ⟨by rw [E0.out, E3.out]; rfl, _, _, _, Hid.mk_ (by rw [E0.out, E3.out]; exact O6.out.fin (off6 + 1) (n6 - 1) (c5 - 1) (.inl rfl) rfl rfl), fun b off e => (by injection e with e; injection e with e1 e2; subst e1; exact hb6 _ off6 rfl), W6.then_ (Wr.set w6 g 1 _) (fun i hi => .inl (.inl hi))⟩
    · have E2 := E1.out
      rw [if_neg (fun e => hk0 (by rw [ek.out, e]; rfl))] at E2
      have E3 := Hid.mk_ E2
      clear E1 E2
      go_upto_region 9 with fail
      have O6 := O4
      have W6 := W4
      have hb6 : ∀ b off, A = some ⟨b, off, none⟩ → (∃ off', A = some ⟨b, off', none⟩) ∨ w.heap.size ≤ b := fun b off e => .inl ⟨off, e⟩
      clear O4 W4
      generalize ks = r at *
      generalize k = n6 at *
      generalize w4 = w6 at *
      rcases O6.out.row with ⟨-, e⟩ | ⟨b6, off6, rfl, h1, h2, h3⟩
      · have := O6.out.cap
        omega
      · cases r with
        | nil => exact absurd O6.out.len (by simp; omega)
        | cons y ys =>
          have cy : w6.cell? ⟨b6, off6, none⟩ = some (.int .i64 y) := by simpa using (h3 0 y rfl).1
          have H3 := Hid.mk_ h3
          have c61 := O6.out.cell1
          have c60 := O6.out.cell0
          have f61 := O6.out.fr
          have cap6 := O6.out.cap
          have i1 : (0 : Int) < (n6 : Int) := by omega
          have i2 : (1 : Int) ≤ (n6 : Int) := by omega
          have i3 : (1 : Int) ≤ (c : Int) := by omega
          have i4 : (n6 : Int) ≤ (c : Int) := by omega
          clear h3
          go_wp2_with fail
          · go_ret
            exact ⟨by rw [E0.out, E3.out]; rfl, _, _, _, Hid.mk_ (by rw [E0.out, E3.out]; exact O6.out.fin off6 (n6 - 1) 0 (.inr (by omega)) rfl (by omega)), fun b off e => (by injection e with e; injection e with e1 e2; subst e1; exact hb6 _ off6 rfl), W6.then_ (Wr.set w6 g 1 _) (fun i hi => .inl (.inl hi))⟩
          · go_ret
            exact ⟨by rw [E0.out, E3.out]; rfl, _, _, _, Hid.mk_ (by rw [E0.out, E3.out]; exact O6.out.fin (off6 + 1) (n6 - 1) (c - 1) (.inl rfl) rfl rfl), fun b off e => (by injection e with e; injection e with e1 e2; subst e1; exact hb6 _ off6 rfl), W6.then_ (Wr.set w6 g 1 _) (fun i hi => .inl (.inl hi))⟩
theorem next_nil (v d : Value) (w : World) : Calls Tryz.prog 51 #[.pointer none, v, d] w fun e w' => e = .returned (.int .i64 (-1)) ∧ Below w.heap.size w w' := by
  go_enter Tryz.func51, Tryz.ntmps51
  go_wp2_with fail
  go_ret
  exact ⟨rfl, by go_grown⟩
theorem Row.lit (w : World) (zs : List Int) (t : TypeId) : Row (w.alloc (.cells (ints zs).toArray t)) (some ⟨w.heap.size, 0, none⟩) zs := by
  intro j y hy
  refine ⟨_, _, rfl, ?_⟩
  rw [World.cell?_alloc_new, Nat.zero_add, List.getElem?_toArray, ints, List.getElem?_map, hy]
  rfl
theorem n1 : nxt 0 [2, 0, 2, 9] [] 5 = (2, []) := by decide
theorem n2 : nxt 0 [2] [] 6 = (2, []) := by decide
theorem n3 : nxt 0 [] [] 1 = (-1, []) := by decide
end Go.Proofs.YthndjhocmpelcaaGreat.Prb
