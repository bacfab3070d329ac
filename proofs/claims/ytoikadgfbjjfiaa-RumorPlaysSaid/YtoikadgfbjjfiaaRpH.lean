/- Chapter 3: where a moment lies in the row. Conditions: the row lies in a block of its own. -/
import Derived.Test.YtoikadgfbjjfiaaRpG
import Derived.Shelf.Abstract
namespace Go.Proofs.Ytoikadgfbjjfiaa.Rum
open Go.RowKit Kit Go.Shelf
set_option linter.unusedVariables false
variable {o : Int}
theorem is59 (id : Int) (B : Nat) (x : Tld) (W : World) (hcell : W.cell? ⟨B, 0, none⟩ = some (.int .i64 id)) :
    Calls Try.prog 59 #[.agg #[.int .i64 x.node, .int .i64 x.inc, .int .i64 x.hl, .int .i64 x.n], .pointer (some ⟨B, 0, none⟩)] W fun e w' => e = .returned (.bool (decide (x.node = id))) ∧ Below W.heap.size W w' := by
  have hB := World.block_lt_of_cell? W _ hcell
  have hne : B ≠ W.heap.size := by simp at hB; omega
  go_enter Try.func59, Try.ntmps59
  go_wp2_with fail
  go_ret
  refine ⟨by simp [Bool.beq_eq_decide_eq], ((Below.refl _ W).alloc (Nat.le_refl _) _)⟩
theorem TAt.keep {w w' : World} {b : Nat} {hs : List Tld} (h : TAt w b hs) (hb : Below w.heap.size w w') : TAt w' b hs := fun j m hj => by
  obtain ⟨⟨h1, h2, h3, h4⟩, h5, h6, h7, h8⟩ := h j m hj
  have hl := World.block_lt_of_cell? w _ h1
  have := hb.block b hl
  refine ⟨⟨keep1 hb h1, keep1 hb h2, keep1 hb h3, keep1 hb h4⟩, ?_, ?_, ?_, ?_⟩
  · rw [← h5]; simp [World.frozen?, this]
  · rw [← h6]; simp [World.frozen?, this]
  · rw [← h7]; simp [World.frozen?, this]
  · rw [← h8]; simp [World.frozen?, this]
theorem findIdx_hit : ∀ (hs : List Tld) (id : Int) (k : Nat), k < hs.length → (fn hs k).node = id → (∀ j, j < k → (fn hs j).node ≠ id) → hs.findIdx? (fun m => decide (m.node = id)) = some k
  | [], _, _, h, _, _ => absurd h (Nat.not_lt_zero _)
  | a :: l, id, 0, _, h, _ => by
    have h : a.node = id := h
    simp [List.findIdx?_cons, h]
  | a :: l, id, k + 1, hk, h, hA => by
    have h0 : a.node ≠ id := hA 0 (by omega)
    rw [List.findIdx?_cons]
    simp only [h0, decide_false, Bool.false_eq_true, if_false]
    rw [findIdx_hit l id k (by simpa using hk) h (fun j hj => hA (j + 1) (by omega))]
    rfl
theorem findIdx_miss : ∀ (hs : List Tld) (id : Int), (∀ j, j < hs.length → (fn hs j).node ≠ id) → hs.findIdx? (fun m => decide (m.node = id)) = none
  | [], _, _ => rfl
  | a :: l, id, hA => by
    have h0 : a.node ≠ id := hA 0 (by simp)
    rw [List.findIdx?_cons]
    simp only [h0, decide_false, Bool.false_eq_true, if_false]
    rw [findIdx_miss l id (fun j hj => hA (j + 1) (by simpa using hj))]
    rfl
set_option maxHeartbeats 2000000 in
theorem ixf (b n c B : Nat) (id : Int) (hs : List Tld) (w : World) (hm : Hid (TAt w b hs)) (hn : Hid (n = hs.length)) (hbig : n ≤ 1000000) (hB : Hid (w.cell? ⟨B, 0, none⟩ = some (.int .i64 id))) (r : Int) (hr : Hid (r = match hs.findIdx? (fun m => decide (m.node = id)) with | some i => (i : Int) | none => -1)) :
    Calls Try.prog 58 #[.slice (some ⟨b, 0, none⟩) n c, .func (.func 59) #[] #[.pointer (some ⟨B, 0, none⟩)]] w fun e w' => e = .returned (.int .i64 r) ∧ Below w.heap.size w w' := by
  have eg : ∀ args w, (callFunc 59 args).run Try.prog w = .ok (.enter 59 args) w := enters_of Try.func59 (by kernel_rfl) rfl
  go_enter Try.func58, Try.ntmps58
  go_wp2
  go_loopg [5, 8] n (fun gg _ s8 wr => ∃ kk : Nat, kk ≤ n ∧ n - kk ≤ gg ∧ s8 = .int .i64 kk ∧ Hid (Below w.heap.size w wr) ∧ Hid (∀ j, j < kk → (fn hs j).node ≠ id))
  case atStart => exact ⟨0, Nat.zero_le _, by omega, rfl, Below.refl _ w, fun j hj => absurd hj (Nat.not_lt_zero _)⟩
  case round =>
    obtain ⟨kk, hkk, hg, rfl, BW, A⟩ := hrel
    by_cases hlt : kk < n
    · have hltz : (kk : Int) < (n : Int) := by omega
      have hl := hn.out
      have l0 := (hm.out.keep BW.out) kk (fn hs kk) (fn_get (by omega))
      clear hl
      have hcall := is59 id B (fn hs kk) wr (keep1 BW.out hB.out)
      obtain ⟨⟨x0, x1, x2, x3⟩, _⟩ := l0
      have k0 : (0 : Int) ≤ (kk : Int) := by omega
      cases hq : decide ((fn hs kk).node = id) with
      | true =>
        rw [hq] at hcall
        have hr := hr.out
        rw [findIdx_hit hs id kk (by have := hn.out; omega) (of_decide_eq_true hq) A.out] at hr
        simp only at hr
        subst hr
        clear hq
        go_wp2_with (go_at_call 59; refine hcall.mono ?_; rintro e w' ⟨rfl, hb'⟩)
        go_ret
        exact ⟨rfl, BW.out.trans (hb'.mono BW.out.size)⟩
      | false =>
        rw [hq] at hcall
        have HQ := Hid.mk_ (of_decide_eq_false hq)
        clear hq
        go_wp2_with (go_at_call 59; refine hcall.mono ?_; rintro e w' ⟨rfl, hb'⟩)
        go_roundg (n - (kk + 1))
        case measure => omega
        case rel =>
          refine ⟨kk + 1, by omega, by omega, by go_num, Hid.mk_ (BW.out.trans (hb'.mono BW.out.size)), Hid.mk_ (fun j hj => ?_)⟩
          by_cases e : j = kk
          · subst e
            exact HQ.out
          · exact A.out j (by omega)
    · have hltz : ¬ (kk : Int) < (n : Int) := by omega
      have e0 : kk = n := by omega
      subst e0
      have hl := hn.out
      have hr := hr.out
      rw [findIdx_miss hs id (fun j hj => A.out j (by omega))] at hr
      simp only at hr
      subst hr
      clear hl
      go_wp2
      go_ret
      exact ⟨rfl, BW.out⟩
theorem ixf_nil (c B : Nat) (w : World) :
    Calls Try.prog 58 #[.slice none 0 c, .func (.func 59) #[] #[.pointer (some ⟨B, 0, none⟩)]] w fun e w' => e = .returned (.int .i64 (-1)) ∧ w' = w := by
  go_enter Try.func58, Try.ntmps58
  go_wp2
  go_loopg [5, 8] 0 (fun gg _ s8 wr => s8 = .int .i64 0 ∧ wr = w)
  case atStart => exact ⟨rfl, rfl⟩
  case round =>
    obtain ⟨rfl, rfl⟩ := hrel
    go_wp2
    go_ret
    exact ⟨rfl, rfl⟩
def plc (hs : List Tld) (id : Int) : Int := match hs.findIdx? (fun m => decide (m.node = id)) with | some i => (i : Int) | none => -1
theorem place_nil (id : Int) (w : World) : Calls Try.prog 46 #[.pointer none, .int .i64 id] w fun e w' => e = .returned (.int .i64 (-1)) ∧ Below w.heap.size w w' := by
  go_enter Try.func46, Try.ntmps46
  go_wp2_with fail
  go_ret
  exact ⟨rfl, (Below.refl _ w).alloc (Nat.le_refl _) _⟩
set_option maxRecDepth 100000 in
theorem place {w : World} {g n c : Nat} {A : Option Addr} {hs : List Tld} (id : Int) (h : Hid (HpS o w g A n c hs)) (hn : n ≤ 1000000) (r : Int) (hr : Hid (r = plc hs id)) :
    Calls Try.prog 46 #[.pointer (some ⟨g, 0, none⟩), .int .i64 id] w fun e w' => e = .returned (.int .i64 r) ∧ Below w.heap.size w w' := by
  have a1 : Below w.heap.size w (w.alloc (.cells #[.int .i64 id] 3)) := (Below.refl _ _).alloc (Nat.le_refl _) _
  have h1 := Hid.mk_ (h.out.below a1)
  have c1 := h1.out.cell
  have b1 : Hid ((w.alloc (.cells #[.int .i64 id] 3)).cell? ⟨w.heap.size, 0, none⟩ = some (.int .i64 id)) := Hid.mk_ (by rw [World.cell?_alloc_new]; rfl)
  have z1 := Hid.mk_ a1
  clear a1
  rcases h.out.own.addr with rfl | ⟨b, rfl, _, _⟩
  · have hn0 : n = 0 := by
      rw [h.out.len]
      rcases Nat.eq_zero_or_pos hs.length with e | e
      · exact e
      · obtain ⟨b, hb, _⟩ := h.out.own.some_ e
        cases hb
    subst hn0
    have hs0 : hs = [] := List.length_eq_zero_iff.1 h.out.len.symm
    have hr0 : r = -1 := by rw [hr.out, hs0]; rfl
    subst hr0
    go_enter Try.func46, Try.ntmps46
    go_wp2_with (go_at_call 58; refine (ixf_nil c _ _).mono ?_; rintro e w' ⟨rfl, rfl⟩)
    go_ret
    exact ⟨rfl, z1.out⟩
  · go_enter Try.func46, Try.ntmps46
    go_wp2_with (go_at_call 58; refine (ixf b n c _ id hs _ (Hid.mk_ h1.out.own.at_) (Hid.mk_ h1.out.len) hn b1 r hr).mono ?_; rintro e w' ⟨rfl, b2⟩)
    go_ret
    exact ⟨rfl, z1.out.trans (b2.mono z1.out.size)⟩
end Go.Proofs.Ytoikadgfbjjfiaa.Rum
