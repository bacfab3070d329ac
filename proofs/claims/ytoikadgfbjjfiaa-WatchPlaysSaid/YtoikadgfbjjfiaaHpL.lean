/- Chapter 5: a clock's functions: Cut, Set. Conditions: the row lies in a block of its own. -/
import Derived.Test.YtoikadgfbjjfiaaHpK
namespace Go.Proofs.Ytoikadgfbjjfiaa.Wat
open Go.RowKit Kit Go.Shelf
set_option linter.unusedVariables false
/-- The clock at g is turned to L; nothing else is. -/
def Turn (w w' : World) (g : Nat) (A : Option Addr) (L : List Mom) : Prop := ∃ A', Clk w' g A' L ∧ Fresh w A A' ∧ Wr w w' (Its g A)
theorem Fresh.refl (w : World) (A : Option Addr) : Fresh w A A := fun b off h => .inl h
theorem Fresh.trans {w w' : World} {A B C : Option Addr} (h : Fresh w A B) (k : Fresh w' B C) (hz : w.heap.size ≤ w'.heap.size) : Fresh w A C := fun b off e => by
  rcases k b off e with h1 | h1
  · exact h b off h1
  · exact .inr (by omega)
theorem Turn.of_below {w w' : World} {g : Nat} {A : Option Addr} {L : List Mom} (h : Clk w g A L) (hb : Below w.heap.size w w') : Turn w w' g A L :=
  ⟨A, h.below hb, Fresh.refl _ _, Wr.of_below hb _⟩
theorem Turn.trans {w w1 w2 : World} {g : Nat} {A : Option Addr} {L M : List Mom} (h : Turn w w1 g A L) (k : ∀ A', Clk w1 g A' L → Turn w1 w2 g A' M) : Turn w w2 g A M := by
  obtain ⟨A1, h1, h2, h3⟩ := h
  obtain ⟨A2, k1, k2, k3⟩ := k A1 h1
  exact ⟨A2, k1, h2.trans k2 h3.size, h3.then_ k3 (h2.its g)⟩
set_option maxRecDepth 100000 in
set_option maxHeartbeats 1000000 in
theorem cut0 (w : World) (g : Nat) (A : Option Addr) (L : List Mom) (id : Int) (h : Hid (Clk w g A L)) (q : Bool) (hq : Hid (q = has id L)) (M : List Mom) (hM : Hid (M = without id L)) :
    Calls Try.prog 20 #[.pointer (some ⟨g, 0, none⟩), .int .i64 id] w fun e w' => e = .returned (.bool q) ∧ Hid (Turn w w' g A M) := by
  obtain ⟨n, c, hs, h1, h2, h3⟩ := h.out.ex
  have hn : n ≤ 1000000 := by have := h.out.st.len; have := h1.len; have := h3.length_eq; omega
  have hn2 : n < 1000000 := by have := h.out.st.len; have := h1.len; have := h3.length_eq; omega
  have hcon := place id (Hid.mk_ h1) hn _ (Hid.mk_ rfl)
  rcases plc_cases hs id with ⟨e, hne⟩ | ⟨i, e, hi, hid⟩
  · rw [e] at hcon
    have hne' : ∀ m ∈ L, m.id ≠ id := fun m hm => hne m (h3.mem_iff.2 hm)
    have eq : q = false := by rw [hq.out]; exact has_none.2 hne'
    have eM : M = L := by rw [hM.out]; exact without_self hne'
    subst eq eM
    clear hq hM e h1 h2 h3 hne hne'
    go_enter Try.func20, Try.ntmps20
    go_wp2_with (go_at_call 43; refine hcon.mono ?_; rintro e w2 ⟨rfl, b2⟩)
    go_ret
    exact ⟨rfl, Hid.mk_ (Turn.of_below h.out b2)⟩
  · rw [e] at hcon
    have hm : fn hs i ∈ L := h3.mem_iff.1 (by rw [fn_eq hi]; exact List.getElem_mem hi)
    have eq : q = true := by rw [hq.out]; exact has_iff.2 ⟨_, hm, hid⟩
    subst eq
    obtain ⟨k, hk⟩ : ∃ k, n = k + 1 := ⟨n - 1, by have := h1.len; omega⟩
    have hl := h1.len
    have i0 : (0 : Int) ≤ (i : Int) := by omega
    have hR := Hid.mk_ (rem_state (k := k) h2 h3 h.out.st (by omega) (by omega) hid)
    have hh := Hid.mk_ h1
    have hkk := Hid.mk_ hk
    have hik : i ≤ k := by omega
    have hkm : k < 1000000 := by omega
    clear hq e h1 h2 h3 hi hk hl hn hn2
    go_enter Try.func20, Try.ntmps20
    go_upto_region 2 with (go_at_call 43; refine hcon.mono ?_; rintro e w2 ⟨rfl, b2⟩)
    have h2 := Hid.mk_ (hh.out.below b2)
    go_wp2_with (go_at_call 44; refine (remove h2 k i hkk hik hkm).mono ?_; rintro e w3 ⟨rfl, h4, r4⟩)
    go_ret
    refine ⟨rfl, Hid.mk_ ⟨A, ⟨by rw [hM.out]; exact h.out.st.without id, k, c, _, h4.out, hR.out.1, by rw [hM.out]; exact hR.out.2⟩, Fresh.refl _ _, (Wr.of_below b2 _).then_ r4.out (fun i hi => .inl hi)⟩⟩
theorem okM_false {id at_ : Int} (h : okM id at_ = false) : id < 0 ∨ 999 < id ∨ at_ < 0 ∨ 1099511627776 < at_ := by
  unfold okM at h
  simp at h
  omega
set_option maxRecDepth 100000 in
set_option maxHeartbeats 1000000 in
theorem set_no (w : World) (a : Option Addr) (id at_ : Int) (q : Hid (okM id at_ = false)) :
    Calls Try.prog 17 #[.pointer a, .int .i64 id, .int .i64 at_] w fun e w' => e = .returned (.bool false) ∧ w' = w := by
  have h := okM_false q.out
  cases a with
  | none => exact set_nil id at_ w
  | some a =>
  by_cases h1 : id < 0
  · go_enter Try.func17, Try.ntmps17
    go_wp2_with fail
    go_ret
    exact ⟨rfl, rfl⟩
  · by_cases h2 : 999 < id
    · go_enter Try.func17, Try.ntmps17
      go_wp2_with fail
      go_ret
      exact ⟨rfl, rfl⟩
    · by_cases h3 : at_ < 0
      · go_enter Try.func17, Try.ntmps17
        go_wp2_with fail
        go_ret
        exact ⟨rfl, rfl⟩
      · have h4 : 1099511627776 < at_ := by omega
        clear h
        go_enter Try.func17, Try.ntmps17
        go_wp2_with fail
        go_ret
        exact ⟨rfl, rfl⟩
set_option maxRecDepth 100000 in
set_option maxHeartbeats 1000000 in
theorem set_yes (w : World) (g : Nat) (A : Option Addr) (L : List Mom) (id at_ : Int) (h : Hid (Clk w g A L)) (hok : okM id at_ = true) (M : List Mom) (hM : Hid (M = setL id at_ L)) :
    Calls Try.prog 17 #[.pointer (some ⟨g, 0, none⟩), .int .i64 id, .int .i64 at_] w fun e w' => e = .returned (.bool true) ∧ Hid (Turn w w' g A M) := by
  have HK := Hid.mk_ hok
  obtain ⟨i0, i1, a0, a1⟩ := okM_iff.1 hok
  clear hok
  have j0 : ¬ id < 0 := by omega
  have j1 : ¬ 999 < id := by omega
  have j2 : ¬ at_ < 0 := by omega
  have j3 : ¬ 1099511627776 < at_ := by omega
  go_enter Try.func17, Try.ntmps17
  go_upto_region 3 with fail
  go_wp2_with (go_at_call 20; refine (cut0 w g A L id h _ (Hid.mk_ rfl) _ (Hid.mk_ rfl)).mono ?_; rintro e w2 ⟨rfl, t2⟩)
  obtain ⟨A2, k2, f2, r2⟩ := t2.out
  obtain ⟨n, c, hs, p1, p2, p3⟩ := k2.ex
  refine (push (w := w2) (n := n) (c := c) (A := A2) (hs := hs) ⟨id, at_⟩ (Hid.mk_ p1) (by have := k2.st.len; have := p1.len; have := p3.length_eq; omega)).mono ?_
  rintro e w3 ⟨rfl, A3, n3, c3, h3, f3, r3⟩
  go_wp2_with fail
  go_ret
  obtain ⟨s1, s2⟩ := push_state ⟨id, at_⟩ p2 p3
  refine ⟨rfl, Hid.mk_ ⟨A3, ⟨by rw [hM.out]; exact h.out.st.setL HK.out, n3, c3, _, h3.out, s1, by rw [hM.out]; exact s2⟩, f2.trans f3.out r2.size, r2.then_ r3.out (f2.its g)⟩⟩
def setLq (id at_ : Int) (L : List Mom) : List Mom := if okM id at_ then setL id at_ L else L
theorem set0 (w : World) (g : Nat) (A : Option Addr) (L : List Mom) (id at_ : Int) (h : Hid (Clk w g A L)) (q : Bool) (hq : Hid (q = okM id at_)) (M : List Mom) (hM : Hid (M = setLq id at_ L)) :
    Calls Try.prog 17 #[.pointer (some ⟨g, 0, none⟩), .int .i64 id, .int .i64 at_] w fun e w' => e = .returned (.bool q) ∧ Hid (Turn w w' g A M) := by
  cases hok : okM id at_ with
  | false =>
    have eq : q = false := by rw [hq.out, hok]
    have eM : M = L := by rw [hM.out]; unfold setLq; rw [hok]; rfl
    subst eq eM
    refine (set_no w _ id at_ (Hid.mk_ hok)).mono ?_
    rintro e w2 ⟨rfl, rfl⟩
    exact ⟨rfl, Hid.mk_ (Turn.of_below h.out (Below.refl _ _))⟩
  | true =>
    have eq : q = true := by rw [hq.out, hok]
    have eM : M = setL id at_ L := by rw [hM.out]; unfold setLq; rw [hok]; rfl
    subst eq eM
    exact set_yes w g A L id at_ h hok _ (Hid.mk_ rfl)
end Go.Proofs.Ytoikadgfbjjfiaa.Wat
