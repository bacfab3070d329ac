/- Chapter 5: a clock's functions: New, Len, At, Cut, Set. Conditions: the row lies in a block of its own. -/
import Derived.Test.YtoikadgfbjjfiaaHpJ
namespace Go.Proofs.Ytoikadgfbjjfiaa.Wat
open Go.RowKit Kit Go.Shelf
set_option linter.unusedVariables false
theorem new0 (w : World) : Calls Try.prog 16 #[] w fun e w' => ∃ g, e = .returned (.pointer (some ⟨g, 0, none⟩)) ∧ Hid (Clk w' g none []) ∧ Hid (w.heap.size ≤ g) ∧ Below w.heap.size w w' := by
  go_enter Try.func16, Try.ntmps16
  go_wp2_with fail
  go_ret
  have hal := (Below.refl w.heap.size w).alloc (Nat.le_refl _) (.cells #[.slice none 0 0] 78)
  exact ⟨w.heap.size, rfl, Hid.mk_ ⟨St.nil, 0, 0, [], HpS.mk (by rw [World.cell?_alloc_new]; rfl) (World.frozen?_alloc_new _ _ _ _) (OwnM.nil _ _), (fun k k0 kn => absurd kn (Nat.not_lt_zero _)), .refl _⟩, Hid.mk_ (Nat.le_refl _), hal⟩
theorem len_nil (w : World) : Calls Try.prog 19 #[.pointer none] w fun e w' => e = .returned (.int .i64 0) ∧ w' = w := by
  go_enter Try.func19, Try.ntmps19
  go_wp2_with fail
  go_ret
  exact ⟨rfl, rfl⟩
theorem len (w : World) (g : Nat) (A : Option Addr) (L : List Mom) (h : Hid (Clk w g A L)) (r : Int) (hr : Hid (r = L.length)) : Calls Try.prog 19 #[.pointer (some ⟨g, 0, none⟩)] w fun e w' => e = .returned (.int .i64 r) ∧ w' = w := by
  obtain ⟨n, c, hs, h1, h2, h3⟩ := h.out.ex
  have hc := h1.cell
  have e0 : r = (n : Int) := by rw [hr.out, h1.len, h3.length_eq]
  subst e0
  clear hr
  go_enter Try.func19, Try.ntmps19
  go_wp2_with fail
  go_ret
  exact ⟨rfl, rfl⟩
theorem at_nil (id : Int) (w : World) : Calls Try.prog 25 #[.pointer none, .int .i64 id] w fun e w' => e = .returned (.tuple #[.int .i64 0, .bool false]) ∧ Below w.heap.size w w' := by
  go_enter Try.func25, Try.ntmps25
  go_wp2_with (go_at_call 43; refine (place_nil id w).mono ?_; rintro e w2 ⟨rfl, b2⟩)
  go_ret2
  exact ⟨rfl, b2⟩
theorem at0 (w : World) (g : Nat) (A : Option Addr) (L : List Mom) (id : Int) (h : Hid (Clk w g A L)) (r : Int) (q : Bool) (hr : Hid (r = (atL id L).getD 0)) (hq : Hid (q = (atL id L).isSome)) :
    Calls Try.prog 25 #[.pointer (some ⟨g, 0, none⟩), .int .i64 id] w fun e w' => e = .returned (.tuple #[.int .i64 r, .bool q]) ∧ Below w.heap.size w w' := by
  obtain ⟨n, c, hs, h1, h2, h3⟩ := h.out.ex
  have hn : n ≤ 1000000 := by have := h.out.st.len; have := h1.len; have := h3.length_eq; omega
  have hcon := place id (Hid.mk_ h1) hn _ (Hid.mk_ rfl)
  rcases plc_cases hs id with ⟨e, hne⟩ | ⟨i, e, hi, hid⟩
  · rw [e] at hcon
    have e0 : atL id L = none := atL_none (fun m hm => hne m (h3.mem_iff.2 hm))
    have er : r = 0 := by rw [hr.out, e0]; rfl
    have eq : q = false := by rw [hq.out, e0]; rfl
    subst er eq
    clear hr hq e h h1 h2 h3
    go_enter Try.func25, Try.ntmps25
    go_wp2_with (go_at_call 43; refine hcon.mono ?_; rintro e w2 ⟨rfl, b2⟩)
    go_ret2
    exact ⟨rfl, b2⟩
  · rw [e] at hcon
    have hm : fn hs i ∈ L := h3.mem_iff.1 (by rw [fn_eq hi]; exact List.getElem_mem hi)
    have e0 : atL id L = some (fn hs i).at_ := by rw [← hid]; exact h.out.st.find hm
    have er : r = (fn hs i).at_ := by rw [hr.out, e0]; rfl
    have eq : q = true := by rw [hq.out, e0]; rfl
    subst er eq
    have i0 : (0 : Int) ≤ (i : Int) := by omega
    have i1 : (i : Int) < (n : Int) := by have := h1.len; omega
    obtain ⟨b, rfl, _, _⟩ := h1.own.some_ (by omega)
    have hh := Hid.mk_ h1
    have hi' := Hid.mk_ hi
    clear hr hq e h h1 h2 h3 e0 hi
    go_enter Try.func25, Try.ntmps25
    go_upto_region 2 with (go_at_call 43; refine hcon.mono ?_; rintro e w2 ⟨rfl, b2⟩)
    have h2 := Hid.mk_ (hh.out.below b2)
    have c2 := h2.out.cell
    obtain ⟨x0, x1, _, _⟩ := h2.out.own.at_ i (fn hs i) (fn_get hi'.out)
    go_wp2_with fail
    go_ret2
    exact ⟨rfl, b2⟩
theorem cut_nil (id : Int) (w : World) : Calls Try.prog 20 #[.pointer none, .int .i64 id] w fun e w' => e = .returned (.bool false) ∧ Below w.heap.size w w' := by
  go_enter Try.func20, Try.ntmps20
  go_wp2_with (go_at_call 43; refine (place_nil id w).mono ?_; rintro e w2 ⟨rfl, b2⟩)
  go_ret
  exact ⟨rfl, b2⟩
theorem set_nil (id at_ : Int) (w : World) : Calls Try.prog 17 #[.pointer none, .int .i64 id, .int .i64 at_] w fun e w' => e = .returned (.bool false) ∧ w' = w := by
  go_enter Try.func17, Try.ntmps17
  go_wp2_with fail
  go_ret
  exact ⟨rfl, rfl⟩
end Go.Proofs.Ytoikadgfbjjfiaa.Wat
