/- Chapter 5: the document's own clock: Cut, Due, Set. Conditions: the rows lie in memory. -/
import Derived.Test.YthndjhocmpelcaaGreatHpS
namespace Go.Proofs.YthndjhocmpelcaaGreat.Wat
open Go.RowKit Kit Ints Go.Proofs.YthndjhocmpelcaaGreatW.PrintLast
set_option linter.unusedVariables false
theorem rcut (w : World) (g : Nat) (A : Option Addr) (L : List Mom) (id : Int) (h : Hid (Ref w g A L)) (hst : Hid (St L)) (q : Bool) (hq : Hid (q = has id L)) (M : List Mom) (hM : Hid (M = without id L)) :
    Calls Tryz.prog 45 #[.pointer (some ⟨g, 0, none⟩), .int .i64 id] w fun e w' => e = .returned (.bool q) ∧ Hid (RTurn w w' g A M) := by
  go_enter Tryz.func45, Tryz.ntmps45
  go_wp2_with (go_at_call 68; refine (rwithout w g A L id h hst q hq M hM).mono ?_; rintro e w2 ⟨rfl, t2⟩)
  go_ret
  exact ⟨rfl, t2⟩
/-- The first one is gone. -/
theorem RefS.tail {w : World} {g b off n c : Nat} {m : Mom} {L : List Mom} (h : RefS w g (some ⟨b, off, none⟩) n c (m :: L)) (off' n' c' : Nat) (ho : off' = off + 2 ∨ c ≤ 1) (hn : n' = n - 1) (hc : c' = c - 1) : RefS (w.setCell ⟨g, 0, none⟩ (.slice (some ⟨b, off', none⟩) n' c')) g (some ⟨b, off', none⟩) n' c' L := by
  have hb := h.its b (.inr ⟨off, rfl⟩)
  have hl := h.len
  have hcp := h.cap
  simp only [List.length_cons] at hl
  have hgb : g < b := by
    rcases h.blk with ⟨h1, _⟩ | ⟨b', o, h1, h2, h3⟩
    · cases h1
    · injection h1 with h1; injection h1 with h1; omega
  refine ⟨World.cell?_setCell_same _ _ _ h.cell, (World.frozen?_setCell _ _ _ _).trans h.fr, by omega, ⟨by omega, by omega⟩, ?_, .inr ⟨b, off', rfl, hgb, by simp [World.setCell]; exact hb.2⟩⟩
  rcases ho with rfl | ho
  · have h1 := h.row.drop 1
    exact h1.keep fun b' o e hbb => Below.heap_setCell _ _ _ _ (by injection e with e; injection e with e; simp only; omega)
  · exact MRowE _ (by omega)
theorem out_bound {out rest : List Mom} : True := trivial
/-- As RTurn; and it lies in no other block. -/
def RDue (w w' : World) (g : Nat) (A : Option Addr) (M : List Mom) : Prop := ∃ A', Ref w' g A' M ∧ (∀ k, Its g A' k → Its g A k) ∧ Wr w w' (fun k => k = g)
set_option maxRecDepth 100000 in
set_option maxHeartbeats 4000000 in
theorem rdue (w : World) (g : Nat) (A : Option Addr) (L : List Mom) (now : Int) (h : Hid (Ref w g A L)) (hst : Hid (St L)) (D : List Int) (hD : Hid (dueL now L = D)) (M : List Mom) (hM : Hid (restL now L = M)) :
    Calls Tryz.prog 53 #[.pointer (some ⟨g, 0, none⟩), .int .i64 now] w fun e w' => ∃ B n c, e = .returned (.slice B n c) ∧ Hid (Own w' w.heap.size (.slice B n c) D) ∧ Hid (RDue w w' g A M) := by
  have hits := Hid.mk_ h.out.its
  go_enter Tryz.func53, Tryz.ntmps53
  go_wp2
  go_loopg [5] L.length (fun gg s5 wr => ∃ (rest : List Mom) (out : List Int) (B A' : Option Addr) (n c : Nat), s5 = .slice B n c ∧ rest.length ≤ gg ∧ Hid (out.length + rest.length ≤ 1000) ∧ Hid (Own wr w.heap.size (.slice B n c) out) ∧ Hid (Ref wr g A' rest) ∧ Hid (∀ k, Its g A' k → Its g A k) ∧ Hid (Wr w wr (fun k => k = g)) ∧ Hid (out ++ dueL now rest = D) ∧ Hid (restL now rest = M) ∧ Hid (rest.Pairwise (fun a b => ltM a b = true)))
  case atStart => exact ⟨L, [], none, A, 0, 0, rfl, Nat.le_refl _, Hid.mk_ (by have := hst.out.len; simp; omega), Hid.mk_ (Own.nil _ _), h, Hid.mk_ (fun k hk => hk), Hid.mk_ (Wr.of_below (Below.refl _ _) _), hD, hM, Hid.mk_ hst.out.ord⟩
  case round =>
    obtain ⟨rest, out, B, A', n, c, rfl, hgg, hlen, hown, hclk, hI, hwr, hD1, hM1, hor⟩ := hrel
    obtain ⟨n1, c1, p1⟩ := hclk.out
    have hcell := p1.cell
    cases rest with
    | nil =>
      obtain rfl : n1 = 0 := p1.len
      clear p1
      go_wp2_with fail
      go_ret
      exact ⟨B, n, c, rfl, by rw [← hD1.out]; simpa [dueL] using hown, Hid.mk_ (by rw [← hM1.out]; exact ⟨A', hclk.out, fun k hk => hI.out k hk, hwr.out⟩)⟩
    | cons m rest =>
      obtain ⟨k, hk⟩ : ∃ k, n1 = k + 1 := ⟨n1 - 1, by have := p1.len; simp at this; omega⟩
      obtain ⟨b, off, rfl, x0, x1⟩ := p1.row 0 m rfl
      simp only [Nat.zero_mul, Nat.add_zero] at x0 x1
      have l0 : (0 : Int) < (n1 : Int) := by omega
      have l2 : (1 : Int) ≤ (n1 : Int) := by omega
      have hfr := p1.fr
      have hgb : g ≠ b := by
        rcases p1.blk with ⟨h1, _⟩ | ⟨b', o, h1, h2, h3⟩
        · cases h1
        · injection h1 with h1; injection h1 with h1; omega
      have P1 := Hid.mk_ p1
      have HK := Hid.mk_ hk
      clear p1 hk
      by_cases hat : m.at_ ≤ now
      · go_upto_region 4 with (at_builtin; refine wpList_app _ rfl _ _ rfl w.heap.size _ out rfl (hown.out.keep ((Below.refl _ _).alloc (Nat.le_refl _) _)) _ [m.id] 1 _ rfl rfl (Row.one' _ _ _ _ (by simp)) (by have := hlen.out; simp at this ⊢; omega) (by have := hwr.out.size; simp; omega) ?_; intro v5 w5 own5 b5)
        obtain ⟨B5, c5, rfl, _⟩ := own5.form
        have bb := (Below.refl wr.heap.size wr).alloc (Nat.le_refl _) (.cells #[.int .i64 m.id] 3)
        have W5 := Hid.mk_ (Wr.of_base b5 _ (hwr.out.then_ (Wr.of_below bb (fun _ => False)) (fun i hi => hi.elim)) (Nat.le_refl _))
        have P5 := Hid.mk_ ((P1.out.wr (Wr.of_below bb (fun _ => False)) (fun _ _ h => h)).wr (Wr.ofB b5) (fun k hk hn => by have := (hits.out k (hI.out k hk)).2; omega))
        have hcell5 := P5.out.cell
        have hfr5 := P5.out.fr
        have hc1 := P1.out.cap.1
        have O5 := Hid.mk_ own5
        have zb := Hid.mk_ (fun h => by have := (hits.out b (hI.out b (.inr ⟨off, rfl⟩))).2; have := (hits.out g (.inl rfl)).2; exact h : True → True)
        have HGZ : Hid (g < w.heap.size) := Hid.mk_ (hits.out g (.inl rfl)).2
        clear hcell hfr x0 x1 own5 b5 bb hgb
        by_cases hcc : c1 = 1
        · subst hcc
          go_wp2_with fail
          go_roundg rest.length
          case measure => simp at hgg; omega
          case rel => exact ⟨rest, out ++ [m.id], B5, _, _, c5, rfl, Nat.le_refl _, Hid.mk_ (by have := hlen.out; simp at this ⊢; omega), Hid.mk_ (Wat.Own.keepW O5.out (Wr.set _ g 0 _) (fun k hk => by subst hk; exact HGZ.out)), Hid.mk_ ⟨_, _, P5.out.tail off _ _ (.inr (by omega)) (by omega) (by omega)⟩, Hid.mk_ (fun k hk => hI.out k hk), Hid.mk_ (W5.out.then_ (Wr.set _ g 0 _) (fun i hi => .inl hi)), Hid.mk_ (by have := hD1.out; rw [(due_cons_yes hat).1] at this; simpa using this), Hid.mk_ (by have := hM1.out; rw [(due_cons_yes hat).2] at this; exact this), Hid.mk_ (List.pairwise_cons.1 hor.out).2⟩
        · have hcc2 : ¬ (c1 = 1) := hcc
          go_wp2_with fail
          go_roundg rest.length
          case measure => simp at hgg; omega
          case rel => exact ⟨rest, out ++ [m.id], B5, _, _, c5, rfl, Nat.le_refl _, Hid.mk_ (by have := hlen.out; simp at this ⊢; omega), Hid.mk_ (Wat.Own.keepW O5.out (Wr.set _ g 0 _) (fun k hk => by subst hk; exact HGZ.out)), Hid.mk_ ⟨_, _, P5.out.tail (off + 2) _ _ (.inl rfl) rfl rfl⟩, Hid.mk_ (fun k hk => by
            rcases hk with rfl | ⟨o, e⟩
            · exact .inl rfl
            · injection e with e; injection e with e1 e2; exact hI.out k (.inr ⟨off, by rw [e1]⟩)), Hid.mk_ (W5.out.then_ (Wr.set _ g 0 _) (fun i hi => .inl hi)), Hid.mk_ (by have := hD1.out; rw [(due_cons_yes hat).1] at this; simpa using this), Hid.mk_ (by have := hM1.out; rw [(due_cons_yes hat).2] at this; exact this), Hid.mk_ (List.pairwise_cons.1 hor.out).2⟩
      · go_wp2_with fail
        go_ret
        obtain ⟨d1, d2⟩ := due_cons_no hor.out (now := now) (by omega)
        exact ⟨B, n, c, rfl, by rw [← hD1.out, d1]; simpa using hown, Hid.mk_ (by rw [← hM1.out, d2]; exact ⟨_, hclk.out, fun k hk => hI.out k hk, hwr.out⟩)⟩
end Go.Proofs.YthndjhocmpelcaaGreat.Wat
