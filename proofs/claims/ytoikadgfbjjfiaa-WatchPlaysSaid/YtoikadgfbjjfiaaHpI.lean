/- Chapter 5: a clock: its state, where a moment is, how many. Conditions: the row lies in a block of its own. -/
import Derived.Test.YtoikadgfbjjfiaaHpH
namespace Go.Proofs.Ytoikadgfbjjfiaa.Wat
open Go.RowKit Kit Go.Shelf
set_option linter.unusedVariables false
theorem ixf_nil (c B : Nat) (w : World) :
    Calls Try.prog 56 #[.slice none 0 c, .func (.func 57) #[] #[.pointer (some ⟨B, 0, none⟩)]] w fun e w' => e = .returned (.int .i64 (-1)) ∧ w' = w := by
  go_enter Try.func56, Try.ntmps56
  go_wp2
  go_loopg [5, 8] 0 (fun gg _ s8 wr => s8 = .int .i64 0 ∧ wr = w)
  case atStart => exact ⟨rfl, rfl⟩
  case round =>
    obtain ⟨rfl, rfl⟩ := hrel
    go_wp2
    go_ret
    exact ⟨rfl, rfl⟩
def plc (hs : List Mom) (id : Int) : Int := match hs.findIdx? (fun m => decide (m.id = id)) with | some i => (i : Int) | none => -1
theorem place_nil (id : Int) (w : World) : Calls Try.prog 43 #[.pointer none, .int .i64 id] w fun e w' => e = .returned (.int .i64 (-1)) ∧ Below w.heap.size w w' := by
  go_enter Try.func43, Try.ntmps43
  go_wp2_with fail
  go_ret
  exact ⟨rfl, (Below.refl _ w).alloc (Nat.le_refl _) _⟩
set_option maxRecDepth 100000 in
theorem place {w : World} {g n c : Nat} {A : Option Addr} {hs : List Mom} (id : Int) (h : Hid (HpS w g A n c hs)) (hn : n ≤ 1000000) (r : Int) (hr : Hid (r = plc hs id)) :
    Calls Try.prog 43 #[.pointer (some ⟨g, 0, none⟩), .int .i64 id] w fun e w' => e = .returned (.int .i64 r) ∧ Below w.heap.size w w' := by
  have a1 : Below w.heap.size w (w.alloc (.cells #[.int .i64 id] 3)) := (Below.refl _ _).alloc (Nat.le_refl _) _
  have h1 := Hid.mk_ (h.out.below a1)
  have c1 := h1.out.cell
  have b1 : Hid ((w.alloc (.cells #[.int .i64 id] 3)).cell? ⟨w.heap.size, 0, none⟩ = some (.int .i64 id)) := Hid.mk_ (by rw [World.cell?_alloc_new]; rfl)
  have z1 := Hid.mk_ a1
  clear a1
  rcases h.out.own.addr with rfl | ⟨b, rfl, _, _⟩
  · have hn0 : n = 0 := by
      rw [h.out.len]
      rcases Nat.eq_zero_or_pos hs.length with e | e
      · exact e
      · obtain ⟨b, hb, _⟩ := h.out.own.some_ e
        cases hb
    subst hn0
    have hs0 : hs = [] := List.length_eq_zero_iff.1 h.out.len.symm
    have hr0 : r = -1 := by rw [hr.out, hs0]; rfl
    subst hr0
    go_enter Try.func43, Try.ntmps43
    go_wp2_with (go_at_call 56; refine (ixf_nil c _ _).mono ?_; rintro e w' ⟨rfl, rfl⟩)
    go_ret
    exact ⟨rfl, z1.out⟩
  · go_enter Try.func43, Try.ntmps43
    go_wp2_with (go_at_call 56; refine (ixf b n c _ id hs _ (Hid.mk_ h1.out.own.at_) (Hid.mk_ h1.out.len) hn b1 r hr).mono ?_; rintro e w' ⟨rfl, b2⟩)
    go_ret
    exact ⟨rfl, z1.out.trans (b2.mono z1.out.size)⟩
/-- A good row of moments: in order, each id once, within the bounds. -/
structure St (L : List Mom) : Prop where
  ord : L.Pairwise (fun a b => ltM a b = true)
  nodup : (L.map Mom.id).Nodup
  id0 : ∀ m ∈ L, 0 ≤ m.id ∧ m.id ≤ 999
  at0 : ∀ m ∈ L, 0 ≤ m.at_ ∧ m.at_ ≤ 1099511627776
theorem nodup_le : ∀ (N : Nat) (l : List Int), l.Nodup → (∀ x ∈ l, 0 ≤ x ∧ x < N) → l.length ≤ N
  | 0, [], _, _ => Nat.le_refl _
  | 0, a :: l, _, h => by have := h a (by simp); omega
  | N + 1, l, hd, h => by
    have h1 := nodup_le N (l.erase N) (hd.erase _) (fun x hx => by
      have h2 := h x (List.mem_of_mem_erase hx)
      have h3 : x ≠ (N : Int) := fun e => by
        subst e
        exact (List.Nodup.mem_erase_iff hd).1 hx |>.1 rfl
      omega)
    rw [List.length_erase] at h1
    split at h1 <;> omega
theorem St.len {L : List Mom} (h : St L) : L.length ≤ 1000 := by
  have := nodup_le 1000 (L.map Mom.id) h.nodup (fun x hx => by
    obtain ⟨m, hm, rfl⟩ := List.mem_map.1 hx
    have := h.id0 m hm
    omega)
  simpa using this
theorem St.nil : St [] := ⟨.nil, .nil, fun _ h => absurd h (List.not_mem_nil), fun _ h => absurd h (List.not_mem_nil)⟩
theorem St.filter {L : List Mom} (h : St L) (p : Mom → Bool) : St (L.filter p) :=
  ⟨h.ord.filter _, h.nodup.sublist (List.Sublist.map _ (List.filter_sublist)), fun m hm => h.id0 m (List.mem_filter.1 hm).1, fun m hm => h.at0 m (List.mem_filter.1 hm).1⟩
/-- A clock that waits for L. -/
structure Clk (w : World) (g : Nat) (A : Option Addr) (L : List Mom) : Prop where
  st : St L
  ex : ∃ n c hs, HpS w g A n c hs ∧ Hp hs ∧ hs.Perm L
theorem Clk.wr {w w' : World} {S : Nat → Prop} {g : Nat} {A : Option Addr} {L : List Mom} (h : Clk w g A L) (hw : Wr w w' S) (hd : ∀ k, Its g A k → ¬ S k) : Clk w' g A L := by
  obtain ⟨h1, n, c, hs, h2, h3, h4⟩ := h
  exact ⟨h1, n, c, hs, h2.wr hw (hd g (.inl rfl)) (fun b off e => hd b (.inr ⟨off, e⟩)), h3, h4⟩
theorem Clk.below {w w' : World} {g : Nat} {A : Option Addr} {L : List Mom} (h : Clk w g A L) (hw : Below w.heap.size w w') : Clk w' g A L :=
  h.wr (Wr.of_below hw (fun _ => False)) (fun k _ h => h)
theorem Clk.its {w : World} {g : Nat} {A : Option Addr} {L : List Mom} (h : Clk w g A L) : ∀ k, Its g A k → k < w.heap.size := by
  obtain ⟨h1, n, c, hs, h2, h3, h4⟩ := h
  rintro k (rfl | ⟨off, rfl⟩)
  · exact h2.lt
  · exact (h2.own.block k off rfl).2
end Go.Proofs.Ytoikadgfbjjfiaa.Wat
