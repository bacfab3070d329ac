/- Chapter 3: a heap in a row: up and down, put on, taken off. Conditions: the row lies in a block of its own. -/
import Derived.Test.YtoikadgfbjjfiaaRpA
namespace Go.Proofs.Ytoikadgfbjjfiaa.Rum
open Go.RowKit Kit
set_option linter.unusedVariables false
theorem keep1 {w w' : World} {a : Addr} {v : Value} (hb : Below w.heap.size w w') (h : w.cell? a = some v) : w'.cell? a = some v :=
  (hb.cell (World.block_lt_of_cell? w _ h)).trans h
def upF : Nat → List Tld → Nat → List Tld
  | 0, l, _ => l
  | f + 1, l, j => if j = 0 then l else match l[j]?, l[(j - 1) / 2]? with
    | some y, some x => if ltT y x then upF f ((l.set ((j - 1) / 2) y).set j x) ((j - 1) / 2) else l
    | _, _ => l
set_option maxRecDepth 100000 in
set_option maxHeartbeats 2000000 in
theorem up (g base b n c j0 : Nat) (hs : List Tld) (w : World) (hc : Hid (w.cell? ⟨g, 1, none⟩ = some (.slice (some ⟨b, 0, none⟩) n c))) (hm : Hid (OwnT w base (.slice (some ⟨b, 0, none⟩) n c) hs)) (hn : Hid (n = hs.length)) (hj : j0 < n) (hbig : n ≤ 1000000) (hgb : g ≠ b) (f0 : Nat) (hf : j0 < f0) (R : List Tld) (hR : Hid (upF f0 hs j0 = R)) :
    Calls Try.prog 54 #[.iface 95 (.pointer (some ⟨g, 1, none⟩)), .int .i64 (j0 : Int)] w fun e w' => e = .returned (.tuple #[]) ∧ Hid (OwnT w' base (.slice (some ⟨b, 0, none⟩) n c) R) ∧ R.length = n ∧ w.grownBy w' (some b) := by
  go_enter Try.func54, Try.ntmps54
  go_wp2_with fail
  go_loopw [1] (fun v wr => ∃ (j f : Nat) (cur : List Tld), v = .int .i64 (j : Int) ∧ j < n ∧ j < f ∧ Hid (n = cur.length) ∧ Hid (OwnT wr base (.slice (some ⟨b, 0, none⟩) n c) cur) ∧ Hid (w.grownBy wr (some b)) ∧ Hid (upF f cur j = R)) (fun v _ => (intOf v).toNat)
  case atStart => exact ⟨j0, f0, hs, rfl, hj, hf, hn, hm, Hid.mk_ (World.grownBy.refl _ _), hR⟩
  case round =>
    obtain ⟨j, f, cur, rfl, hjn, hjf, hcn, hown, hgr, hR⟩ := hrel
    obtain ⟨f, rfl⟩ : ∃ f', f = f' + 1 := ⟨f - 1, by omega⟩
    by_cases h0 : j = 0
    · subst h0
      have e : upF (f + 1) cur 0 = cur := rfl
      rw [e] at hR
      go_wp2_with fail
      go_end0
      have hR := hR.out
      subst hR
      exact ⟨rfl, hown, hcn.out.symm, hgr.out⟩
    · have hcell := hgr.out.cell hc.out (by simp; omega)
      have j1 : 1 ≤ j := by omega
      go_upto_region 1 with fail
      obtain ⟨p, hp⟩ : ∃ p, p = (j - 1) / 2 := ⟨_, rfl⟩
      have ep : ((j : Int) - 1) / 2 = (p : Int) := by omega
      have hpj : ((p : Int) == (j : Int)) = false := beq_eq_false_iff_ne.2 (by omega)
      have hplt : p < j := by omega
      rw [ep]
      obtain ⟨y, hy⟩ : ∃ y, cur[j]? = some y := ⟨_, List.getElem?_eq_getElem (by have := hcn.out; omega)⟩
      obtain ⟨x, hx⟩ : ∃ x, cur[p]? = some x := ⟨_, List.getElem?_eq_getElem (by have := hcn.out; omega)⟩
      have eR : upF (f + 1) cur j = if ltT y x then upF f ((cur.set p y).set j x) p else cur := by
        show (if j = 0 then cur else match cur[j]?, cur[(j - 1) / 2]? with
          | some y, some x => if ltT y x then upF f ((cur.set ((j - 1) / 2) y).set j x) ((j - 1) / 2) else cur
          | _, _ => cur) = _
        rw [if_neg h0, ← hp, hy, hx]
      rw [eR] at hR
      have HX := Hid.mk_ hx
      have HY := Hid.mk_ hy
      have ml := m_less wr g _ hcell
      have M1 := Hid.mk_ hown.out.at_
      clear ep hp hx hy eR hcell
      cases hq : ltT y x with
      | false =>
        rw [hq] at hR
        have HQ := Hid.mk_ hq.symm
        clear hq
        go_wp2_with (go_at_call 84; refine (less b n c j p y x cur _ M1 HY HX hjn (by omega) hbig false HQ).mono ?_; rintro e w2 ⟨rfl, b2⟩)
        go_end0
        have hR : cur = R := by simpa using hR.out
        subst hR
        exact ⟨rfl, Hid.mk_ (hown.out.keep b2), hcn.out.symm, gb_trans hgr.out (gb_below b2)⟩
      | true =>
        rw [hq] at hR
        have HQ := Hid.mk_ hq.symm
        clear hq
        go_wp2_with (go_at_call 84; refine (less b n c j p y x cur _ M1 HY HX hjn (by omega) hbig true HQ).mono ?_; rintro e w2 ⟨rfl, b2⟩; have ms := m_swap w2 g _ (keep1 b2 (hgr.out.cell hc.out (by simp; omega))))
        refine (swap0 base b n c p j x y cur _ (Hid.mk_ (hown.out.keep b2)) HX HY (by omega) hjn hbig).mono ?_
        rintro e w3 ⟨rfl, o3, g3⟩
        go_wp2_with fail
        go_roundw
        case rel => exact ⟨p, f, _, rfl, by omega, by omega, Hid.mk_ (by simp; exact hcn.out), Hid.mk_ o3, Hid.mk_ (gb_trans (gb_trans hgr.out (gb_below b2)) g3), Hid.mk_ (by simpa using hR.out)⟩
        case measure => simp [intOf]; omega
end Go.Proofs.Ytoikadgfbjjfiaa.Rum
