/- Chapter 4, the document's own order: whom to ask next. Conditions: the order lies in a block of its own, and its row in another. -/
import Derived.Test.YthobimdnjggkfaaPrU
namespace Go.Proofs.Ythobimdnjggkfaa.Prb
open Go.RowKit Kit
set_option linter.unusedVariables false
theorem kept_yes {ls r : List Int} {j : Nat} {x : Int} (hx : r[j]? = some x) (h : x ∈ ls) : kept ls (r.take (j + 1)) = kept ls (r.take j) ++ [x] := by
  unfold kept
  rw [List.take_add_one, hx, List.filter_append]
  congr 1
  simp [h]
theorem kept_no {ls r : List Int} {j : Nat} {x : Int} (hx : r[j]? = some x) (h : ¬ x ∈ ls) : kept ls (r.take (j + 1)) = kept ls (r.take j) := by
  unfold kept
  rw [List.take_add_one, hx, List.filter_append]
  simp [h]
def NextedR (w : World) (g : Nat) (me : Int) (A : Option Addr) (r : Int × List Int) (e : Ending) (w' : World) : Prop :=
  e = .returned (.int .i64 r.1) ∧ ∃ A' n' c', Hid (Odr w' g me A' n' c' r.2) ∧ (∀ b off, A' = some ⟨b, off, none⟩ → A = some ⟨b, off, none⟩ ∨ w.heap.size ≤ b) ∧ Wr w w' (fun k => k = g)
theorem Own.odr {w : World} {base g g0 n c : Nat} {me : Int} {v : Value} {y : Int} {ys : List Int} (h : Own w base (.slice (some ⟨g0, 0, none⟩) n c) (y :: ys)) (hg : g < base) (h0 : w.cell? ⟨g, 0, none⟩ = some (.int .i64 me)) (h1 : w.cell? ⟨g, 1, none⟩ = some v) (hf : w.frozen? ⟨g, 1, none⟩ = false)
    (off n' c' : Nat) (ho : off = 1 ∨ c ≤ 1) (hn : n' = n - 1) (hc : c' = c - 1) : Odr (w.setCell ⟨g, 1, none⟩ (.slice (some ⟨g0, off, none⟩) n' c')) g me (some ⟨g0, off, none⟩) n' c' ys := by
  subst hn hc
  obtain ⟨g1, e, a1, a2, a3⟩ := Own.some_ h (by simp)
  injection e with e
  injection e with e
  subst e
  have hl := h.row.1
  obtain ⟨hcap, hmax⟩ := h.bounds
  simp at hl
  refine Odr.put h0 h1 hf (by omega) (by omega) (by omega) (.inr ⟨g0, off, rfl, by omega, a2, fun j x hx => ?_⟩)
  rcases ho with rfl | ho
  · have := a3 (j + 1) x hx
    rwa [Nat.add_comm j 1] at this
  · have : ys.length = 0 := by omega
    have := (List.getElem?_eq_some_iff.1 hx).1
    omega
set_option maxHeartbeats 4000000 in
theorem nextR {w : World} {g : Nat} {me : Int} {A : Option Addr} {n c : Nat} {zs : List Int} (h : Hid (Odr w g me A n c zs)) (hz : zs.length ≤ 100) (Ap : Option Addr) (np cp : Nat) (ps : List Int) (hp : Hid (Row w Ap ps)) (hn : Hid (np = ps.length)) (hm : np ≤ 9223372036854775807) (d : Int) (hd : Hid (0 ≤ d)) :
    Calls Try.prog 29 #[.pointer (some ⟨g, 0, none⟩), .slice Ap np cp, .int .u64 d] w (NextedR w g me A (nxt me ps zs d)) := by
  have hg := h.out.lt
  have c0 := h.out.cell0
  go_enter Try.func29, Try.ntmps29
  go_wp2_with fail
  refine (peers Ap np cp ps me _ hp hn hm).mono ?_
  rintro e w1 ⟨Al, cl, rfl, hown, hb1⟩
  have O1 := h.out.below hb1
  have hl8 := br_len me ps 8
  obtain ⟨l, hl⟩ : ∃ l, br me ps 8 = l := ⟨_, rfl⟩
  have HL := Hid.mk_ hl
  rw [hl] at hown hl8 ⊢
  clear hl c0
  obtain ⟨m, em⟩ : ∃ m, m = l.length := ⟨_, rfl⟩
  rw [← em] at hown hl8 ⊢
  have EM := Hid.mk_ em
  clear em
  have R1 := Hid.mk_ hown.row.2.1
  obtain ⟨hmc, hcm⟩ := hown.bounds
  have z1 := hb1.size
  have HO1 := Hid.mk_ O1
  have HB1 := Hid.mk_ hb1
  clear hown O1 hb1
  by_cases hl0 : m = 0
  · have e0 : nxt me ps zs d = (-1, zs) := by unfold nxt; rw [if_pos (List.eq_nil_of_length_eq_zero (by rw [HL.out, ← EM.out, hl0]))]
    have E0 := Hid.mk_ e0
    clear e0
    go_wp2_with fail
    go_ret
    exact ⟨by rw [E0.out]; rfl, A, n, c, by rw [E0.out]; exact HO1, fun b off e => .inl e, Wr.of_below HB1.out _⟩
  · have e0 : nxt me ps zs d = ((pick l zs d).headD 0, (pick l zs d).tail) := by
      unfold nxt; rw [HL.out, if_neg (fun e => hl0 (by rw [EM.out, e]; rfl))]
    have E0 := Hid.mk_ e0
    clear e0
    have c1 := HO1.out.cell1
    have hnz := Hid.mk_ HO1.out.len
    have hn100 : n ≤ 100 := by have := HO1.out.len; omega
    have RZ := Hid.mk_ HO1.out.readable
    have hb0 : ((m : Int) == 0) = false := beq_eq_false_iff_ne.2 (by omega)
    go_wp2_with fail
    try simp only [hb0]
    have own0 : Hid (Own w1 w1.heap.size (.slice none 0 0) (kept l (zs.take 0))) := Hid.mk_ (Own.nil _ _)
    go_loopw [8, 25] (fun v i wr => ∃ j : Nat, j ≤ n ∧ i = .int .i64 (j : Int) ∧ Hid (Own wr w1.heap.size v (kept l (zs.take j))) ∧ Hid (Below w1.heap.size w1 wr)) (fun _ i _ => n - (intOf i).toNat)
    case atStart => exact ⟨0, by omega, rfl, own0, Hid.mk_ (Below.refl _ _)⟩
    case round =>
      clear own0 c1
      obtain ⟨j, hj, rfl, hown, hb⟩ := hrel
      obtain ⟨A0, n0, c0, rfl, en0⟩ := hown.out.lettered
      have hkl : (kept l (zs.take j)).length ≤ 100 := by have := kept_len l (zs.take j); simp at this; omega
      by_cases hlt : j < n
      · obtain ⟨x, hx⟩ : ∃ x, zs[j]? = some x := ⟨_, List.getElem?_eq_getElem (by have := hnz.out; omega)⟩
        obtain ⟨bb, oo, rfl, cx⟩ := (RZ.out.keep fun b _ _ hlt => hb.out.block b hlt) j x hx
        by_cases hin : x ∈ l
        · have HK := Hid.mk_ (kept_yes hx hin)
          have hq : Hid (true = decide (x ∈ l)) := Hid.mk_ (by simp [hin])
          clear hx hin
          generalize kept l (zs.take j) = ks at *
          go_wp2_with fail
          refine Calls.cells (has Al m cl l x _ (R1.out.keep fun b _ _ hlt => hb.out.block b hlt) EM (by omega) true hq) ?_
          intro w2 b2 _
          have B2 := Hid.mk_ (hb.out.trans (b2.mono hb.out.size))
          have z2 := B2.out.size
          have hown2 := Hid.mk_ (hown.out.keep b2)
          clear b2 hb hown cx
          go_wp2_with (at_builtin; refine wpList_app _ rfl _ _ rfl w1.heap.size _ ks rfl (hown2.out.keep ((Below.refl _ _).alloc (Nat.le_refl _) _)) _ [x] 1 _ rfl rfl (Row.one _ _ _) (by simp; omega) (by simp; omega) ?_; intro v3 w3 hown3 hb3)
          obtain ⟨A3, n3, c3, rfl, en3⟩ := hown3.lettered
          have H3 := Hid.mk_ hown3
          have B3 := Hid.mk_ ((B2.out.alloc z2 (.cells #[.int .i64 x] 3)).trans hb3)
          clear hown3 hb3 hown2 B2
          go_roundw
          case rel => exact ⟨j + 1, by omega, by go_num, by rw [HK.out]; exact H3, B3⟩
          case measure => simp [intOf]; omega
        · have HK := Hid.mk_ (kept_no hx hin)
          have hq : Hid (false = decide (x ∈ l)) := Hid.mk_ (by simp [hin])
          clear hx hin
          generalize kept l (zs.take j) = ks at *
          go_wp2_with fail
          refine Calls.cells (has Al m cl l x _ (R1.out.keep fun b _ _ hlt => hb.out.block b hlt) EM (by omega) false hq) ?_
          intro w2 b2 _
          have B2 := Hid.mk_ (hb.out.trans (b2.mono hb.out.size))
          have hown2 := Hid.mk_ (hown.out.keep b2)
          clear b2 hb hown cx
          go_wp2_with fail
          go_roundw
          case rel => exact ⟨j + 1, by omega, by go_num, by rw [HK.out]; exact hown2, B2⟩
          case measure => simp [intOf]; omega
      · obtain rfl : j = n := by omega
        rw [List.take_of_length_le (by have := hnz.out; omega)] at hown en0 hkl
        have E1 : Hid (pick l zs d = if kept l zs = [] then shuf l.length d l else kept l zs) := rfl
        generalize kept l zs = ks at *
        have O7 := Hid.mk_ (HO1.out.below hb.out)
        have B7 := Hid.mk_ (HB1.out.trans (hb.out.mono z1))
        have R7 := Hid.mk_ (R1.out.below hb.out)
        have z7 := hb.out.size
        clear HO1 HB1 RZ
        by_cases hk0 : n0 = 0
        · subst hk0
          obtain rfl := List.eq_nil_of_length_eq_zero en0.out.symm
          have E2 := E1.out
          rw [if_pos rfl] at E2
          have hrl := shuf_len l.length d l
          obtain ⟨r, hr⟩ : ∃ r, shuf l.length d l = r := ⟨_, rfl⟩
          rw [hr] at E2 hrl
          have HR := Hid.mk_ hr
          have E3 := Hid.mk_ E2
          have hrl2 : r.length ≠ 0 := by have := EM.out; omega
          clear E1 E2 hown hr hrl hb
          go_wp2_with fail
          refine (shuffleR8 Al m cl l d _ R7 EM (by omega) hmc hd).mono ?_
          rintro e w6 ⟨A6, c6, rfl, own6', b6⟩
          rw [HR.out] at own6' ⊢
          obtain ⟨n6, en6⟩ : ∃ n, n = r.length := ⟨_, rfl⟩
          rw [← en6] at own6' hrl2 ⊢
          have EN6 := Hid.mk_ en6
          have own6 := Hid.mk_ (own6'.mono (show w1.heap.size ≤ wr.heap.size from z7))
          have O6 := Hid.mk_ (O7.out.below b6)
          have B6 := Hid.mk_ (B7.out.trans (b6.mono B7.out.size))
          clear en6 own6' b6 O7 B7 HR R7
          obtain ⟨y, ys, rfl⟩ : ∃ y ys, r = y :: ys := by
            cases r with
            | nil => exact absurd EN6.out hrl2
            | cons y ys => exact ⟨y, ys, rfl⟩
          have c06 := O6.out.cell0
          have c16 := O6.out.cell1
          have f16 := O6.out.fr
          obtain ⟨g0, rfl, a1, a2, a3⟩ := Own.some_ own6.out (by simp)
          have cy := (a3 0 y rfl).1
          obtain ⟨hc6, hm6⟩ := own6.out.bounds
          have i0 : 0 < n6 := by have := EN6.out; simp at this; omega
          have i1 : (0 : Int) < (n6 : Int) := by omega
          have i2 : (1 : Int) ≤ (n6 : Int) := by omega
          have i3 : (1 : Int) ≤ (c6 : Int) := by omega
          have i4 : (n6 : Int) ≤ (c6 : Int) := by omega
          have hgg : g ≠ g0 := by omega
          clear a3
          have cy2 : ∀ v, (w6.setCell ⟨g, 1, none⟩ v).cell? ⟨g0, 0, none⟩ = some (.int .i64 y) := fun v => by
            rw [World.cell?_setCell_other _ _ _ _ (by simp <;> omega)]; exact cy
          by_cases hc1 : c6 = 1
          · subst hc1
            go_wp2_with fail
            go_ret
            exact ⟨by rw [E0.out, E3.out]; rfl, _, _, _, Hid.mk_ (by rw [E0.out, E3.out]; exact own6.out.odr (by omega) c06 c16 f16 0 _ _ (.inr (by omega)) (by omega) rfl), fun b off e => .inr (by injection e with e; injection e with e; omega), (Wr.of_below B6.out _).then_ (Wr.set w6 g 1 _) (fun i hi => .inl hi)⟩
          · go_wp2_with fail
            go_ret
            exact ⟨by rw [E0.out, E3.out]; rfl, _, _, _, Hid.mk_ (by rw [E0.out, E3.out]; exact own6.out.odr (by omega) c06 c16 f16 1 _ _ (.inl rfl) rfl rfl), fun b off e => .inr (by injection e with e; injection e with e; omega), (Wr.of_below B6.out _).then_ (Wr.set w6 g 1 _) (fun i hi => .inl hi)⟩
        · have E2 := E1.out
          rw [if_neg (fun e => hk0 (by rw [en0.out, e]; rfl))] at E2
          have E3 := Hid.mk_ E2
          have hnb : ((n0 : Int) == 0) = false := beq_eq_false_iff_ne.2 (by omega)
          clear E1 E2 hb R7
          have own6 := hown
          have O6 := O7
          have B6 := B7
          have EN6 := en0
          clear hown O7 B7 en0
          generalize n0 = n6 at *
          generalize c0 = c6 at *
          generalize wr = w6 at *
          obtain ⟨y, ys, rfl⟩ : ∃ y ys, ks = y :: ys := by
            cases ks with
            | nil => exact absurd EN6.out hk0
            | cons y ys => exact ⟨y, ys, rfl⟩
          have c06 := O6.out.cell0
          have c16 := O6.out.cell1
          have f16 := O6.out.fr
          obtain ⟨g0, rfl, a1, a2, a3⟩ := Own.some_ own6.out (by simp)
          have cy := (a3 0 y rfl).1
          obtain ⟨hc6, hm6⟩ := own6.out.bounds
          have i0 : 0 < n6 := by have := EN6.out; simp at this; omega
          have i1 : (0 : Int) < (n6 : Int) := by omega
          have i2 : (1 : Int) ≤ (n6 : Int) := by omega
          have i3 : (1 : Int) ≤ (c6 : Int) := by omega
          have i4 : (n6 : Int) ≤ (c6 : Int) := by omega
          have hgg : g ≠ g0 := by omega
          clear a3
          have cy2 : ∀ v, (w6.setCell ⟨g, 1, none⟩ v).cell? ⟨g0, 0, none⟩ = some (.int .i64 y) := fun v => by
            rw [World.cell?_setCell_other _ _ _ _ (by simp <;> omega)]; exact cy
          by_cases hc1 : c6 = 1
          · subst hc1
            go_wp2_with fail
            go_ret
            exact ⟨by rw [E0.out, E3.out]; rfl, _, _, _, Hid.mk_ (by rw [E0.out, E3.out]; exact own6.out.odr (by omega) c06 c16 f16 0 _ _ (.inr (by omega)) (by omega) rfl), fun b off e => .inr (by injection e with e; injection e with e; omega), (Wr.of_below B6.out _).then_ (Wr.set w6 g 1 _) (fun i hi => .inl hi)⟩
          · go_wp2_with fail
            go_ret
            exact ⟨by rw [E0.out, E3.out]; rfl, _, _, _, Hid.mk_ (by rw [E0.out, E3.out]; exact own6.out.odr (by omega) c06 c16 f16 1 _ _ (.inl rfl) rfl rfl), fun b off e => .inr (by injection e with e; injection e with e; omega), (Wr.of_below B6.out _).then_ (Wr.set w6 g 1 _) (fun i hi => .inl hi)⟩
end Go.Proofs.Ythobimdnjggkfaa.Prb
