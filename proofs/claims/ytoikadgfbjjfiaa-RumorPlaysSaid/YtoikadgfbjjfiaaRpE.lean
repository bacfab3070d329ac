/- Chapter 3: a heap in a row: Push, Pop, Remove of the library. Conditions: the row lies in a block of its own. -/
import Derived.Test.YtoikadgfbjjfiaaRpD
namespace Go.Proofs.Ytoikadgfbjjfiaa.Rum
open Go.RowKit Kit
set_option linter.unusedVariables false
variable {o : Int}
/-- The new address is the old one, or it is new. -/
def Fresh (w : World) (A A' : Option Addr) : Prop := ∀ b off, A' = some ⟨b, off, none⟩ → A = some ⟨b, off, none⟩ ∨ w.heap.size ≤ b
theorem Fresh.its {w : World} {A A' : Option Addr} (h : Fresh w A A') (g : Nat) : ∀ i, Its g A' i → Its g A i ∨ w.heap.size ≤ i := fun i hi => by
  rcases hi with h1 | ⟨off, h1⟩
  · exact .inl (.inl h1)
  · rcases h i off h1 with h2 | h2
    · exact .inl (.inr ⟨off, h2⟩)
    · exact .inr h2
theorem HpS.len {w : World} {g : Nat} {A : Option Addr} {n c : Nat} {hs : List Tld} (h : HpS o w g A n c hs) : n = hs.length := h.own.len.1
theorem HpS.gb {w w' : World} {g b n c : Nat} {hs hs' : List Tld} (h : HpS o w g (some ⟨b, 0, none⟩) n c hs) (hg : w.grownBy w' (some b)) (ho : OwnT w' (g + 1) (.slice (some ⟨b, 0, none⟩) n c) hs') : HpS o w' g (some ⟨b, 0, none⟩) n c hs' := by
  have := h.own.block b 0 rfl
  exact ⟨hg.cell h.cell (by simp; omega), ((Wr.of_gb hg).frozen h.lt (by omega)).trans h.fr, ho, hg.cell h.oft (by simp; omega)⟩
theorem Its.of {g b : Nat} : ∀ k, k = b → Its g (some ⟨b, 0, none⟩) k := fun k e => .inr ⟨0, by rw [e]⟩
theorem upF_len : ∀ (f : Nat) (l : List Tld) (j : Nat), (upF f l j).length = l.length
  | 0, l, j => rfl
  | f + 1, l, j => by
    rw [upF]
    split
    · rfl
    · split
      · split
        · rw [upF_len f]; simp
        · rfl
      · rfl
theorem downF_len : ∀ (f : Nat) (l : List Tld) (i n : Nat), (downF f l i n).1.length = l.length
  | 0, l, i, n => rfl
  | f + 1, l, i, n => by
    rw [downF]
    split
    · split
      · rw [downF_len f, sw_len]
      · rfl
    · rfl
/-- What Push makes of a row. -/
def pushF (hs : List Tld) (m : Tld) : List Tld := upF (hs.length + 1) (hs ++ [m]) hs.length
set_option maxRecDepth 100000 in
set_option maxHeartbeats 2000000 in
theorem push {w : World} {g n c : Nat} {A : Option Addr} {hs : List Tld} (m : Tld) (h : Hid (HpS o w g A n c hs)) (hn : n < 1000000) :
    Calls Try.prog 41 #[.iface 95 (.pointer (some ⟨g, 1, none⟩)), boxT m] w fun e w' => e = .returned (.tuple #[]) ∧ ∃ A' n' c', Hid (HpS o w' g A' n' c' (pushF hs m)) ∧ Hid (Fresh w A A') ∧ Hid (Wr w w' (Its g A)) := by
  have mp := m_push w g
  go_enter Try.func41, Try.ntmps41
  go_wp2_with fail
  refine (push87 m h (by omega)).mono ?_
  rintro e w1 ⟨rfl, A1, n1, c1, h1, f1, r1⟩
  obtain ⟨b, rfl, hb1, hb2⟩ := h1.out.own.some_ (by simp)
  obtain ⟨k, hk⟩ : ∃ k, k = hs.length := ⟨_, rfl⟩
  have hn1 : n1 = k + 1 := by have := h1.out.len; rw [this, hk]; simp
  have HN := Hid.mk_ hn1
  have hkn : k < 1000000 := by have := h.out.len; omega
  have k3 : (n1 : Int) - 1 = (k : Int) := by omega
  have n1z : (n1 : Int) ≤ 1000000 := by omega
  have c1' := h1.out.cell
  have ml := m_len w1 g _ c1'
  clear hn1
  go_wp2_with (go_at_call 83; refine (len0 _ _ _ _).mono ?_; rintro e w2 ⟨rfl, rfl⟩)
  have c1 := c1'
  clear ml c1'
  refine (up (g) (g + 1) b n1 _ _ (hs ++ [m]) w2 (Hid.mk_ c1) (Hid.mk_ h1.out.own) (Hid.mk_ h1.out.len) (by have := HN.out; omega) (by omega) (by omega) (hs.length + 1) (by omega) (pushF hs m) (Hid.mk_ rfl)).mono ?_
  rintro e w3 ⟨rfl, o3, l3, g3⟩
  go_wp2_with fail
  go_end0
  have f1' := f1.out
  exact ⟨rfl, some ⟨b, 0, none⟩, _, _, Hid.mk_ (h1.out.gb g3 o3.out), f1, Hid.mk_ (r1.out.then_ ((Wr.of_gb g3).mono Its.of) (Fresh.its f1.out g))⟩
def popR (hs : List Tld) : List Tld := (downF hs.length (sw hs 0 (hs.length - 1)) 0 (hs.length - 1)).1
theorem popR_len (hs : List Tld) : (popR hs).length = hs.length := by unfold popR; rw [downF_len, sw_len]
theorem split_last (l : List Tld) (k : Nat) (h : l.length = k + 1) : l = l.take k ++ [fn l k] := by
  have h2 := fn_get (l := l) (k := k) (by omega)
  rw [List.getElem?_eq_getElem (by omega)] at h2
  injection h2 with h2
  rw [← h2]
  conv => lhs; rw [← List.take_append_drop k l]
  congr 1
  rw [List.drop_eq_getElem_cons (by omega), List.drop_of_length_le (by omega)]
set_option maxRecDepth 100000 in
set_option maxHeartbeats 2000000 in
theorem pop {w : World} {g n c : Nat} {A : Option Addr} {hs : List Tld} (h : Hid (HpS o w g A n c hs)) (k : Nat) (hk : Hid (n = k + 1)) (hn : k < 1000000) :
    Calls Try.prog 42 #[.iface 95 (.pointer (some ⟨g, 1, none⟩))] w fun e w' => e = .returned (boxT (fn (popR hs) k)) ∧ Hid (HpS o w' g A k c ((popR hs).take k)) ∧ Hid (Wr w w' (Its g A)) := by
  have hl := h.out.len
  have hkk := hk.out
  obtain ⟨b, rfl, hb1, hb2⟩ := h.out.own.some_ (by omega)
  have k3 : (n : Int) - 1 = (k : Int) := by omega
  have n1z : (n : Int) ≤ 1000000 := by omega
  have HL := Hid.mk_ hl
  have c1 := h.out.cell
  have ml := m_len w g _ c1
  have ms := m_swap w g _ c1
  clear hl hkk
  go_enter Try.func42, Try.ntmps42
  go_wp2_with (go_at_call 83; refine (len0 _ _ _ _).mono ?_; rintro e w2 ⟨rfl, rfl⟩)
  clear ml ms
  refine (swapI (g + 1) b n c 0 k 0 _ hs _ (Hid.mk_ h.out.own) (Hid.mk_ rfl) (Hid.mk_ rfl) (Hid.mk_ (by have := hk.out; omega)) (Hid.mk_ (by have := hk.out; omega)) HL (by omega)).mono ?_
  rintro e w3 ⟨rfl, o3, g3⟩
  have h3 := Hid.mk_ (h.out.gb g3 o3)
  have R3 := Hid.mk_ ((Wr.of_gb g3).mono (Its.of (g := g)))
  have HD : Hid (downF n (sw hs 0 k) 0 k = (popR hs, (downF n (sw hs 0 k) 0 k).2)) := Hid.mk_ (by
    have e1 : hs.length - 1 = k := by have := hk.out; have := HL.out; omega
    have e2 : hs.length = n := HL.out.symm
    unfold popR
    rw [e1, e2])
  have c3 := h3.out.cell
  have hl3 := Hid.mk_ h3.out.len
  clear o3 g3 c1 h
  go_wp2_with fail
  refine (down g (g + 1) b n c 0 k (sw hs 0 k) _ (Hid.mk_ c3) (Hid.mk_ h3.out.own) hl3 (by have := hk.out; omega) (by omega) (by have := hk.out; omega) (by omega) n (by have := hk.out; omega) _ _ HD).mono ?_
  rintro e w4 ⟨rfl, o4, l4, g4⟩
  have h4 := h3.out.gb g4 o4.out
  rw [split_last (popR hs) k (by rw [l4]; exact hk.out)] at h4
  have h4 := Hid.mk_ h4
  have R4 := Hid.mk_ (R3.out.then_ ((Wr.of_gb g4).mono Its.of) (fun i hi => .inl hi))
  have mp := m_pop w4 g
  clear R3 h3 c3 g4 o4
  go_wp2_with (go_at_call 86; refine (pop86 h4 (by have := hk.out; omega)).mono ?_; rintro e w5 ⟨rfl, k', hk', h5, r5⟩)
  have e5 : k' = k := by have := hk'.out; have := hk.out; omega
  subst e5
  go_wp2_with fail
  go_ret
  exact ⟨rfl, h5, Hid.mk_ (R4.out.then_ r5 (fun i hi => .inl (.inl hi)))⟩
end Go.Proofs.Ytoikadgfbjjfiaa.Rum
