/- Chapter 3: a heap in a row: Remove of the library. Conditions: the row lies in a block of its own. -/
import Derived.Test.YtoikadgfbjjfiaaRpE
namespace Go.Proofs.Ytoikadgfbjjfiaa.Rum
open Go.RowKit Kit
set_option linter.unusedVariables false
variable {o : Int}
def remR (hs : List Tld) (i : Nat) : List Tld :=
  if i = hs.length - 1 then hs else
    if i < (downF hs.length (sw hs i (hs.length - 1)) i (hs.length - 1)).2 then (downF hs.length (sw hs i (hs.length - 1)) i (hs.length - 1)).1
    else upF (i + 1) (downF hs.length (sw hs i (hs.length - 1)) i (hs.length - 1)).1 i
theorem remR_len (hs : List Tld) (i : Nat) : (remR hs i).length = hs.length := by
  unfold remR
  split
  · rfl
  · split
    · rw [downF_len, sw_len]
    · rw [upF_len, downF_len, sw_len]
set_option maxRecDepth 100000 in
set_option maxHeartbeats 2000000 in
theorem remove {w : World} {g n c : Nat} {A : Option Addr} {hs : List Tld} (h : Hid (HpS o w g A n c hs)) (k i : Nat) (hk : Hid (n = k + 1)) (hi : i ≤ k) (hn : k < 1000000) :
    Calls Try.prog 44 #[.iface 95 (.pointer (some ⟨g, 1, none⟩)), .int .i64 (i : Int)] w fun e w' => e = .returned (boxT (fn (remR hs i) k)) ∧ Hid (HpS o w' g A k c ((remR hs i).take k)) ∧ Hid (Wr w w' (Its g A)) := by
  have hl := h.out.len
  have hkk := hk.out
  obtain ⟨b, rfl, hb1, hb2⟩ := h.out.own.some_ (by omega)
  have k3 : (n : Int) - 1 = (k : Int) := by omega
  have n1z : (n : Int) ≤ 1000000 := by omega
  have HL := Hid.mk_ hl
  have e1 : hs.length - 1 = k := by omega
  have c1 := h.out.cell
  have ml := m_len w g _ c1
  have ms := m_swap w g _ c1
  clear hl hkk
  by_cases hik : i = k
  · have eR : remR hs i = hs := by unfold remR; rw [e1, if_pos hik]
    rw [eR]
    have hb0 : ((k : Int) == (i : Int)) = true := beq_iff_eq.2 (by omega)
    have h4 := h.out
    rw [split_last hs k (by have := hk.out; have := HL.out; omega)] at h4
    have h4 := Hid.mk_ h4
    have mp := m_pop w g
    clear eR
    go_enter Try.func44, Try.ntmps44
    go_wp2_with (first | (go_at_call 83; refine (len0 _ _ _ _).mono ?_; rintro e w2 ⟨rfl, rfl⟩) | (go_at_call 86; refine (pop86 h4 (by have := hk.out; omega)).mono ?_; rintro e w5 ⟨rfl, k', hk', h5, r5⟩))
    have e5 : k' = k := by have := hk'.out; have := hk.out; omega
    subst e5
    go_wp2_with fail
    go_ret
    exact ⟨rfl, h5, Hid.mk_ (r5.mono (fun i hi => .inl hi))⟩
  · have hb0 : ((k : Int) == (i : Int)) = false := beq_eq_false_iff_ne.2 (by omega)
    have eR : remR hs i = if i < (downF n (sw hs i k) i k).2 then (downF n (sw hs i k) i k).1 else upF (i + 1) (downF n (sw hs i k) i k).1 i := by
      unfold remR; rw [e1, if_neg hik, ← HL.out]
    rw [eR]
    obtain ⟨D, iD, hD⟩ : ∃ D iD, downF n (sw hs i k) i k = (D, iD) := ⟨_, _, rfl⟩
    have dl : D.length = n := by have := downF_len n (sw hs i k) i k; rw [hD, sw_len] at this; rw [this]; exact HL.out.symm
    rw [hD]
    have HD := Hid.mk_ hD
    have DL := Hid.mk_ dl
    clear eR hD dl
    by_cases hlt : i < iD
    · rw [if_pos hlt]
      go_enter Try.func44, Try.ntmps44
      go_wp2_with (first | (go_at_call 83; refine (len0 _ _ _ _).mono ?_; rintro e w2 ⟨rfl, rfl⟩) | fail)
      clear ml ms
      refine (swapI (g + 1) b n c i k _ _ hs _ (Hid.mk_ h.out.own) (Hid.mk_ rfl) (Hid.mk_ rfl) (Hid.mk_ (by have := hk.out; omega)) (Hid.mk_ (by have := hk.out; omega)) HL (by omega)).mono ?_
      rintro e w3 ⟨rfl, o3, g3⟩
      have h3 := Hid.mk_ (h.out.gb g3 o3)
      have R3 := Hid.mk_ ((Wr.of_gb g3).mono (Its.of (g := g)))
      have c3 := h3.out.cell
      have hl3 := Hid.mk_ h3.out.len
      clear o3 g3 c1 h
      go_wp2_with fail
      refine (down g (g + 1) b n c i k (sw hs i k) _ (Hid.mk_ c3) (Hid.mk_ h3.out.own) hl3 (by have := hk.out; omega) (by omega) (by have := hk.out; omega) (by omega) n (by have := hk.out; omega) _ _ HD).mono ?_
      rintro e w4 ⟨rfl, o4, l4, g4⟩
      have h4 := h3.out.gb g4 o4.out
      rw [split_last D k (by rw [l4]; exact hk.out)] at h4
      have h4 := Hid.mk_ h4
      have R4 := Hid.mk_ (R3.out.then_ ((Wr.of_gb g4).mono Its.of) (fun i hi => .inl hi))
      have mp := m_pop w4 g
      clear R3 h3 c3 g4 o4
      rw [decide_eq_true hlt]
      go_wp2_with (go_at_call 86; refine (pop86 h4 (by have := hk.out; omega)).mono ?_; rintro e w5 ⟨rfl, k', hk', h5, r5⟩)
      have e5 : k' = k := by have := hk'.out; have := hk.out; omega
      subst e5
      go_wp2_with fail
      go_ret
      exact ⟨rfl, h5, Hid.mk_ (R4.out.then_ r5 (fun i hi => .inl (.inl hi)))⟩
    · rw [if_neg hlt]
      go_enter Try.func44, Try.ntmps44
      go_wp2_with (first | (go_at_call 83; refine (len0 _ _ _ _).mono ?_; rintro e w2 ⟨rfl, rfl⟩) | fail)
      clear ml ms
      refine (swapI (g + 1) b n c i k _ _ hs _ (Hid.mk_ h.out.own) (Hid.mk_ rfl) (Hid.mk_ rfl) (Hid.mk_ (by have := hk.out; omega)) (Hid.mk_ (by have := hk.out; omega)) HL (by omega)).mono ?_
      rintro e w3 ⟨rfl, o3, g3⟩
      have h3 := Hid.mk_ (h.out.gb g3 o3)
      have R3 := Hid.mk_ ((Wr.of_gb g3).mono (Its.of (g := g)))
      have c3 := h3.out.cell
      have hl3 := Hid.mk_ h3.out.len
      clear o3 g3 c1 h
      go_wp2_with fail
      refine (down g (g + 1) b n c i k (sw hs i k) _ (Hid.mk_ c3) (Hid.mk_ h3.out.own) hl3 (by have := hk.out; omega) (by omega) (by have := hk.out; omega) (by omega) n (by have := hk.out; omega) _ _ HD).mono ?_
      rintro e w4 ⟨rfl, o4, l4, g4⟩
      have h4 := Hid.mk_ (h3.out.gb g4 o4.out)
      have R4 := Hid.mk_ (R3.out.then_ ((Wr.of_gb g4).mono Its.of) (fun i hi => .inl hi))
      have c4 := h4.out.cell
      clear R3 h3 c3 g4 o4
      rw [decide_eq_false hlt]
      go_wp2_with fail
      refine (up g (g + 1) b n c i D w4 (Hid.mk_ c4) (Hid.mk_ h4.out.own) (Hid.mk_ l4.symm) (by have := hk.out; omega) (by omega) (by omega) (i + 1) (by omega) (upF (i + 1) D i) (Hid.mk_ rfl)).mono ?_
      rintro e w5 ⟨rfl, o5, l5, g5⟩
      have h5 := h4.out.gb g5 o5.out
      rw [split_last (upF (i + 1) D i) k (by rw [l5]; exact hk.out)] at h5
      have h5 := Hid.mk_ h5
      have R5 := Hid.mk_ (R4.out.then_ ((Wr.of_gb g5).mono Its.of) (fun i hi => .inl hi))
      have mp := m_pop w5 g
      clear R4 h4 c4 g5 o5
      go_wp2_with (go_at_call 86; refine (pop86 h5 (by have := hk.out; omega)).mono ?_; rintro e w6 ⟨rfl, k', hk', h6, r6⟩)
      have e5 : k' = k := by have := hk'.out; have := hk.out; omega
      subst e5
      go_wp2_with fail
      go_ret
      exact ⟨rfl, h6, Hid.mk_ (R5.out.then_ r6 (fun i hi => .inl (.inl hi)))⟩
end Go.Proofs.Ytoikadgfbjjfiaa.Rum
