/- Chapter 5: where a moment lies in the row. Conditions: the row lies in a block of its own. -/
import Derived.Test.YtoikadgfbjjfiaaHpG
import Derived.Shelf.Abstract
namespace Go.Proofs.Ytoikadgfbjjfiaa.Wat
open Go.RowKit Kit Go.Shelf
set_option linter.unusedVariables false
theorem is57 (id : Int) (B : Nat) (x : Mom) (W : World) (hcell : W.cell? ⟨B, 0, none⟩ = some (.int .i64 id)) :
    Calls Try.prog 57 #[.agg #[.int .i64 x.id, .int .i64 x.at_], .pointer (some ⟨B, 0, none⟩)] W fun e w' => e = .returned (.bool (decide (x.id = id))) ∧ Below W.heap.size W w' := by
  have hB := World.block_lt_of_cell? W _ hcell
  have hne : B ≠ W.heap.size := by simp at hB; omega
  go_enter Try.func57, Try.ntmps57
  go_wp2_with fail
  go_ret
  refine ⟨by simp [Bool.beq_eq_decide_eq], ((Below.refl _ W).alloc (Nat.le_refl _) _)⟩
theorem MAt.keep {w w' : World} {b : Nat} {hs : List Mom} (h : MAt w b hs) (hb : Below w.heap.size w w') : MAt w' b hs := fun j m hj => by
  obtain ⟨h1, h2, h3, h4⟩ := h j m hj
  have hl := World.block_lt_of_cell? w _ h1
  have := hb.block b hl
  refine ⟨keep1 hb h1, keep1 hb h2, ?_, ?_⟩
  · rw [← h3]; simp [World.frozen?, this]
  · rw [← h4]; simp [World.frozen?, this]
theorem findIdx_hit : ∀ (hs : List Mom) (id : Int) (k : Nat), k < hs.length → (fn hs k).id = id → (∀ j, j < k → (fn hs j).id ≠ id) → hs.findIdx? (fun m => decide (m.id = id)) = some k
  | [], _, _, h, _, _ => absurd h (Nat.not_lt_zero _)
  | a :: l, id, 0, _, h, _ => by
    have h : a.id = id := h
    simp [List.findIdx?_cons, h]
  | a :: l, id, k + 1, hk, h, hA => by
    have h0 : a.id ≠ id := hA 0 (by omega)
    rw [List.findIdx?_cons]
    simp only [h0, decide_false, Bool.false_eq_true, if_false]
    rw [findIdx_hit l id k (by simpa using hk) h (fun j hj => hA (j + 1) (by omega))]
    rfl
theorem findIdx_miss : ∀ (hs : List Mom) (id : Int), (∀ j, j < hs.length → (fn hs j).id ≠ id) → hs.findIdx? (fun m => decide (m.id = id)) = none
  | [], _, _ => rfl
  | a :: l, id, hA => by
    have h0 : a.id ≠ id := hA 0 (by simp)
    rw [List.findIdx?_cons]
    simp only [h0, decide_false, Bool.false_eq_true, if_false]
    rw [findIdx_miss l id (fun j hj => hA (j + 1) (by simpa using hj))]
    rfl
set_option maxHeartbeats 2000000 in
theorem ixf (b n c B : Nat) (id : Int) (hs : List Mom) (w : World) (hm : Hid (MAt w b hs)) (hn : Hid (n = hs.length)) (hbig : n ≤ 1000000) (hB : Hid (w.cell? ⟨B, 0, none⟩ = some (.int .i64 id))) (r : Int) (hr : Hid (r = match hs.findIdx? (fun m => decide (m.id = id)) with | some i => (i : Int) | none => -1)) :
    Calls Try.prog 56 #[.slice (some ⟨b, 0, none⟩) n c, .func (.func 57) #[] #[.pointer (some ⟨B, 0, none⟩)]] w fun e w' => e = .returned (.int .i64 r) ∧ Below w.heap.size w w' := by
  have eg : ∀ args w, (callFunc 57 args).run Try.prog w = .ok (.enter 57 args) w := enters_of Try.func57 (by kernel_rfl) rfl
  go_enter Try.func56, Try.ntmps56
  go_wp2
  go_loopg [5, 8] n (fun gg _ s8 wr => ∃ kk : Nat, kk ≤ n ∧ n - kk ≤ gg ∧ s8 = .int .i64 kk ∧ Hid (Below w.heap.size w wr) ∧ Hid (∀ j, j < kk → (fn hs j).id ≠ id))
  case atStart => exact ⟨0, Nat.zero_le _, by omega, rfl, Below.refl _ w, fun j hj => absurd hj (Nat.not_lt_zero _)⟩
  case round =>
    obtain ⟨kk, hkk, hg, rfl, BW, A⟩ := hrel
    by_cases hlt : kk < n
    · have hltz : (kk : Int) < (n : Int) := by omega
      have hl := hn.out
      have l0 := (hm.out.keep BW.out) kk (fn hs kk) (fn_get (by omega))
      clear hl
      have hcall := is57 id B (fn hs kk) wr (keep1 BW.out hB.out)
      obtain ⟨x0, x1, _, _⟩ := l0
      have k0 : (0 : Int) ≤ (kk : Int) := by omega
      cases hq : decide ((fn hs kk).id = id) with
      | true =>
        rw [hq] at hcall
        have hr := hr.out
        rw [findIdx_hit hs id kk (by have := hn.out; omega) (of_decide_eq_true hq) A.out] at hr
        simp only at hr
        subst hr
        clear hq
        go_wp2_with (go_at_call 57; refine hcall.mono ?_; rintro e w' ⟨rfl, hb'⟩)
        go_ret
        exact ⟨rfl, BW.out.trans (hb'.mono BW.out.size)⟩
      | false =>
        rw [hq] at hcall
        have HQ := Hid.mk_ (of_decide_eq_false hq)
        clear hq
        go_wp2_with (go_at_call 57; refine hcall.mono ?_; rintro e w' ⟨rfl, hb'⟩)
        go_roundg (n - (kk + 1))
        case measure => omega
        case rel =>
          refine ⟨kk + 1, by omega, by omega, by go_num, Hid.mk_ (BW.out.trans (hb'.mono BW.out.size)), Hid.mk_ (fun j hj => ?_)⟩
          by_cases e : j = kk
          · subst e
            exact HQ.out
          · exact A.out j (by omega)
    · have hltz : ¬ (kk : Int) < (n : Int) := by omega
      have e0 : kk = n := by omega
      subst e0
      have hl := hn.out
      have hr := hr.out
      rw [findIdx_miss hs id (fun j hj => A.out j (by omega))] at hr
      simp only at hr
      subst hr
      clear hl
      go_wp2
      go_ret
      exact ⟨rfl, BW.out⟩
end Go.Proofs.Ytoikadgfbjjfiaa.Wat
