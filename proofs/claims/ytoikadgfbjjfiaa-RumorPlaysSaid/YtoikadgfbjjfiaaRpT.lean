/- Chapter 3: a queue and the document's own, side by side; rows of structs of five numbers. Conditions: the rows lie in memory. -/
import Derived.Test.YtoikadgfbjjfiaaRpS
namespace Go.Proofs.Ytoikadgfbjjfiaa.Rum
open Go.RowKit Kit Go.Shelf Hth Tri3
set_option linter.unusedVariables false
/-- A queue and the document's, side by side. -/
structure Duo (w : World) (ga : Nat) (o : Int) (A : Option Addr) (L : List Tld) (gr : Nat) (K : Option Addr) (R : List Tld) : Prop where
  a : Que w ga o A L
  r : RQ w gr o K R
  p : R.Perm L
  d : ∀ k, Its ga A k → ¬ Its gr K k
theorem Duo.below {w w' : World} {ga gr : Nat} {o : Int} {A K : Option Addr} {L R : List Tld} (h : Duo w ga o A L gr K R) (hb : Below w.heap.size w w') : Duo w' ga o A L gr K R := ⟨h.a.below hb, h.r.below hb, h.p, h.d⟩
/-- Both are turned. -/
theorem Duo.both {w w1 w2 : World} {ga gr : Nat} {o : Int} {A K : Option Addr} {L R M S : List Tld} (h : Duo w ga o A L gr K R) (t : Turn w w1 ga o A M) (u : RTurn w1 w2 gr o K S) (hp : S.Perm M) : ∃ A' K', Duo w2 ga o A' M gr K' S := by
  obtain ⟨A', k, f, r⟩ := t
  obtain ⟨K', k', f', r'⟩ := u
  have h1 : ∀ i, Its ga A' i → ¬ Its gr K i := fun i hi hn => by
    rcases f.its ga i hi with h2 | h2
    · exact h.d i h2 hn
    · have := (h.r.its i hn).2; omega
  refine ⟨A', K', k.wr r' h1, k', hp, fun i hi hn => ?_⟩
  rcases f'.its gr i hn with h2 | h2
  · exact h1 i hi h2
  · have := k.its i hi; omega
theorem Duo.rkeep {w w1 : World} {ga gr : Nat} {o : Int} {A K : Option Addr} {L R M : List Tld} (h : Duo w ga o A L gr K R) (t : Turn w w1 ga o A M) : RQ w1 gr o K R := by
  obtain ⟨A', k, f, r⟩ := t
  exact h.r.wr r (fun i hi hn => h.d i hn hi)
theorem Turn.wr {w w1 : World} {g : Nat} {o : Int} {A : Option Addr} {M : List Tld} (t : Turn w w1 g o A M) : Wr w w1 (Its g A) := by
  obtain ⟨A', k, f, r⟩ := t
  exact r
theorem RTurn.wr {w w1 : World} {g : Nat} {o : Int} {A : Option Addr} {M : List Tld} (t : RTurn w w1 g o A M) : Wr w w1 (Its g A) := by
  obtain ⟨A', k, f, r⟩ := t
  exact r
theorem OwnC.bounds {w : World} {base : Nat} {A : Option Addr} {n c : Nat} {cs : List Cl} (h : OwnC w base (.slice A n c) n cs) : n ≤ c ∧ c ≤ 9223372036854775807 := by
  obtain ⟨_, c', e, h1, h2, _⟩ := Rowz.form h.2
  injection e with _ _ e2
  omega
theorem plc_none {L R : List Tld} {id : Int} (hp : R.Perm L) (h : qof id L = none) : plc R id = -1 := by
  rcases plc_cases R id with ⟨e, _⟩ | ⟨i, e, hi, hid⟩
  · exact e
  · unfold qof at h
    have := List.find?_eq_none.1 h (fn R i) (hp.mem_iff.1 (by rw [fn_eq hi]; exact List.getElem_mem hi))
    simp [hid] at this
theorem plc_some {L R : List Tld} {id : Int} {t : Tld} (hp : R.Perm L) (hst : St L) (h : qof id L = some t) : ∃ i : Nat, plc R id = (i : Int) ∧ R[i]? = some t := by
  obtain ⟨h1, h2⟩ := qof_some h
  rcases plc_cases R id with ⟨e, hne⟩ | ⟨i, e, hi, hid⟩
  · exact absurd h2 (hne t (hp.mem_iff.2 h1))
  · refine ⟨i, e, ?_⟩
    rw [fn_get hi]
    congr 1
    exact inj_id hst.nodup (hp.mem_iff.1 (by rw [fn_eq hi]; exact List.getElem_mem hi)) h1 (hid.trans h2.symm)
/-- Five numbers. -/
structure Fv where
  d : Int
  n : Int
  c : Cl
def FvAt (w : World) (A : Option Addr) (ls : List Fv) : Prop :=
  ∀ (i : Nat) (c : Fv), ls[i]? = some c → ∃ b off, A = some ⟨b, off, none⟩ ∧ b < w.heap.size ∧ w.cell? ⟨b, off + i * 5, none⟩ = some (.int .i64 c.d) ∧ w.cell? ⟨b, off + i * 5 + 1, none⟩ = some (.int .i64 c.n) ∧ w.cell? ⟨b, off + i * 5 + 2, none⟩ = some (.int .i64 c.c.n) ∧ w.cell? ⟨b, off + i * 5 + 3, none⟩ = some (.int .i64 c.c.i) ∧ w.cell? ⟨b, off + i * 5 + 4, none⟩ = some (.int .i64 c.c.h)
def sh5 : Sh := .pair (.int .i64) (.pair (.int .i64) (.pair (.pair (.int .i64) (.pair (.int .i64) (.pair (.int .i64) .unit))) .unit))
theorem list_of5 (P : Nat → Fv → Prop) : ∀ n, (∀ i, i < n → ∃ c, P i c) → ∃ ls : List Fv, ls.length = n ∧ ∀ (i : Nat) (c : Fv), ls[i]? = some c → P i c
  | 0, _ => ⟨[], rfl, fun i c h => by simp at h⟩
  | n + 1, h => by
    obtain ⟨ls, hl, hp⟩ := list_of5 P n (fun i hi => h i (by omega))
    obtain ⟨c, hc⟩ := h n (by omega)
    refine ⟨ls ++ [c], by simp [hl], fun i d hd => ?_⟩
    by_cases hi : i < n
    · rw [List.getElem?_append_left (by omega)] at hd
      exact hp i d hd
    · rw [List.getElem?_append_right (by omega)] at hd
      have : i = n := by
        have := (List.getElem?_eq_some_iff.1 hd).1
        simp at this; omega
      subst this
      rw [hl] at hd
      simp at hd
      subst hd
      exact hc
theorem rd_fives {w : World} {A : Option Addr} {n c : Nat} (h : RD w (.slice sh5) [.slice A n c]) : ∃ ls : List Fv, ls.length = n ∧ FvAt w A ls ∧ n ≤ c ∧ c ≤ maxLen := by
  rcases h with h | ⟨a, len, cap, h, hl, hm, hi⟩
  · simp only [List.cons.injEq, Value.slice.injEq, and_true] at h
    obtain ⟨rfl, rfl, rfl⟩ := h
    exact ⟨[], rfl, fun i c h => by simp at h, Nat.le_refl _, by simp [maxLen]⟩
  · simp only [List.cons.injEq, Value.slice.injEq, and_true] at h
    obtain ⟨rfl, rfl, rfl⟩ := h
    obtain ⟨ls, hls, hp⟩ := list_of5 (fun i c => ∃ b off, some a = some ⟨b, off, none⟩ ∧ b < w.heap.size ∧ w.cell? ⟨b, off + i * 5, none⟩ = some (.int .i64 c.d) ∧ w.cell? ⟨b, off + i * 5 + 1, none⟩ = some (.int .i64 c.n) ∧ w.cell? ⟨b, off + i * 5 + 2, none⟩ = some (.int .i64 c.c.n) ∧ w.cell? ⟨b, off + i * 5 + 3, none⟩ = some (.int .i64 c.c.i) ∧ w.cell? ⟨b, off + i * 5 + 4, none⟩ = some (.int .i64 c.c.h)) n (fun i hin => by
      obtain ⟨es, hel, hat, hr⟩ := hi i hin
      obtain ⟨d, m, x, y, z, rfl⟩ := rd_five hr
      have e3 : sh5.size = 5 := rfl
      rw [e3] at hat
      have h0 := hat 0 (by omega)
      have h1 := hat 1 (by omega)
      have h2 := hat 2 (by omega)
      have h3 := hat 3 (by omega)
      have h4 := hat 4 (by omega)
      have hs : a.spot = none := by
        cases hsp : a.spot with
        | none => rfl
        | some v =>
          obtain ⟨es0, _, hat0, hr0⟩ := hi 0 (by omega)
          obtain ⟨d0, m0, x0, y0, z0, rfl⟩ := rd_five hr0
          have := hat0 0 (by rw [e3]; omega)
          rw [e3] at this
          unfold Addr.add at this
          simp [World.cell?, hsp] at this
          split at this <;> simp at this
      rw [add_off a _ hs] at h0 h1 h2 h3 h4
      refine ⟨⟨d, m, ⟨x, y, z⟩⟩, a.block, a.off, ?_, ?_, ?_, ?_, ?_, ?_, ?_⟩
      · obtain ⟨b, o, s⟩ := a; simp only at hs; subst hs; rfl
      · exact World.block_lt_of_cell? (w := w) (a := ⟨a.block, a.off + (i * 5 + 0), none⟩) h0
      · rw [Nat.add_zero] at h0; exact h0
      · rw [Nat.add_assoc]; exact h1
      · rw [Nat.add_assoc]; exact h2
      · rw [Nat.add_assoc]; exact h3
      · rw [Nat.add_assoc]; exact h4)
    exact ⟨ls, hls, hp, hl, hm⟩
theorem duo0 {w1 w2 : World} {z ga gr : Nat} {o : Int} (ha : Que w1 ga o none []) (hb : Below w1.heap.size w1 w2) (hr : RQ w2 gr o none []) (hg : w1.heap.size ≤ gr) : Duo w2 ga o none [] gr none [] :=
  ⟨ha.below hb, hr, .refl _, fun k hk hn => by
    have := ha.its k hk
    rcases hn with rfl | ⟨off, e⟩
    · omega
    · cases e⟩
end Go.Proofs.Ytoikadgfbjjfiaa.Rum
