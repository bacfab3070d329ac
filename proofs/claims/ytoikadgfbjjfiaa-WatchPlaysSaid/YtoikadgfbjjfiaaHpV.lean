/- Chapter 5: a clock and the document's own, side by side. Conditions: the rows lie in memory. -/
import Derived.Test.YtoikadgfbjjfiaaHpU
namespace Go.Proofs.Ytoikadgfbjjfiaa.Wat
open Go.RowKit Kit Ints
set_option linter.unusedVariables false
/-- A clock and the document's, side by side. -/
structure Duo (w : World) (ga : Nat) (A : Option Addr) (L : List Mom) (gr : Nat) (R : Option Addr) (M : List Mom) : Prop where
  a : Clk w ga A L
  r : Ref w gr R M
  d : ∀ k, Its ga A k → ¬ Its gr R k
theorem Duo.below {w w' : World} {ga gr : Nat} {A R : Option Addr} {L M : List Mom} (h : Duo w ga A L gr R M) (hb : Below w.heap.size w w') : Duo w' ga A L gr R M := ⟨h.a.below hb, h.r.below hb, h.d⟩
theorem Duo.left {w w' : World} {ga gr : Nat} {A R : Option Addr} {L M N : List Mom} (h : Duo w ga A L gr R M) (t : Turn w w' ga A N) : ∃ A', Duo w' ga A' N gr R M ∧ Wr w w' (Its ga A) := by
  obtain ⟨A', k, f, r⟩ := t
  refine ⟨A', ⟨k, h.r.wr r (fun k hk hn => h.d k hn hk), fun k hk hn => ?_⟩, r⟩
  rcases f.its ga k hk with h1 | h1
  · exact h.d k h1 hn
  · have := (h.r.its k hn).2; omega
theorem Duo.right {w w' : World} {ga gr : Nat} {A R : Option Addr} {L M N : List Mom} (h : Duo w ga A L gr R M) (t : RTurn w w' gr R N) : ∃ R', Duo w' ga A L gr R' N ∧ Wr w w' (fun k => k = gr) := by
  obtain ⟨R', k, f, r⟩ := t
  refine ⟨R', ⟨h.a.wr r (fun k hk hn => h.d k hk (by subst hn; exact .inl rfl)), k, fun k hk hn => ?_⟩, r⟩
  rcases f k hn with h1 | h1
  · exact h.d k hk h1
  · have := h.a.its k hk; omega
theorem Duo.leftD {w w' : World} {ga gr : Nat} {A R : Option Addr} {L M N : List Mom} (h : Duo w ga A L gr R M) (k : Clk w' ga A N) (r : Wr w w' (Its ga A)) : Duo w' ga A N gr R M :=
  ⟨k, h.r.wr r (fun k hk hn => h.d k hn hk), h.d⟩
theorem rset0 (w : World) (g : Nat) (A : Option Addr) (L : List Mom) (id at_ : Int) (h : Hid (Ref w g A L)) (hst : Hid (St L)) (q : Bool) (hq : Hid (q = okM id at_)) (M : List Mom) (hM : Hid (M = setLq id at_ L)) :
    Calls Try.prog 24 #[.pointer (some ⟨g, 0, none⟩), .int .i64 id, .int .i64 at_] w fun e w' => e = .returned (.bool q) ∧ Hid (RTurn w w' g A M) := by
  cases hok : okM id at_ with
  | false =>
    have eq : q = false := by rw [hq.out, hok]
    have eM : M = L := by rw [hM.out]; unfold setLq; rw [hok]; rfl
    subst eq eM
    refine (rset_no w _ id at_ (Hid.mk_ hok)).mono ?_
    rintro e w2 ⟨rfl, rfl⟩
    exact ⟨rfl, Hid.mk_ (RTurn.of_below h.out (Below.refl _ _))⟩
  | true =>
    have eq : q = true := by rw [hq.out, hok]
    have eM : M = setL id at_ L := by rw [hM.out]; unfold setLq; rw [hok]; rfl
    subst eq eM
    exact rset_yes w g A L id at_ h hst hok _ (Hid.mk_ rfl)
theorem dsetA (w : World) (ga gr : Nat) (A R : Option Addr) (L M : List Mom) (id at_ : Int) (h : Hid (Duo w ga A L gr R M)) (q : Bool) (hq : Hid (q = okM id at_)) (N : List Mom) (hN : Hid (N = setLq id at_ L)) :
    Calls Try.prog 17 #[.pointer (some ⟨ga, 0, none⟩), .int .i64 id, .int .i64 at_] w fun e w' => e = .returned (.bool q) ∧ ∃ A', Hid (Duo w' ga A' N gr R M) ∧ Hid (Wr w w' (Its ga A)) :=
  (set0 w ga A L id at_ (Hid.mk_ h.out.a) q hq N hN).mono fun e w' ⟨he, t⟩ => by
    obtain ⟨A', h1, h2⟩ := h.out.left t.out
    exact ⟨he, A', Hid.mk_ h1, Hid.mk_ h2⟩
theorem dcutA (w : World) (ga gr : Nat) (A R : Option Addr) (L M : List Mom) (id : Int) (h : Hid (Duo w ga A L gr R M)) (q : Bool) (hq : Hid (q = has id L)) (N : List Mom) (hN : Hid (N = without id L)) :
    Calls Try.prog 20 #[.pointer (some ⟨ga, 0, none⟩), .int .i64 id] w fun e w' => e = .returned (.bool q) ∧ ∃ A', Hid (Duo w' ga A' N gr R M) ∧ Hid (Wr w w' (Its ga A)) :=
  (cut0 w ga A L id (Hid.mk_ h.out.a) q hq N hN).mono fun e w' ⟨he, t⟩ => by
    obtain ⟨A', h1, h2⟩ := h.out.left t.out
    exact ⟨he, A', Hid.mk_ h1, Hid.mk_ h2⟩
theorem ddueA (w : World) (ga gr : Nat) (A R : Option Addr) (L M : List Mom) (now : Int) (h : Hid (Duo w ga A L gr R M)) (D : List Int) (hD : Hid (dueL now L = D)) (N : List Mom) (hN : Hid (restL now L = N)) :
    Calls Try.prog 18 #[.pointer (some ⟨ga, 0, none⟩), .int .i64 now] w fun e w' => ∃ P n c, e = .returned (.slice P n c) ∧ Hid (Own w' w.heap.size (.slice P n c) D) ∧ Hid (n = D.length) ∧ Hid (Duo w' ga A N gr R M) ∧ Hid (Wr w w' (Its ga A)) :=
  (due0 w ga A L now (Hid.mk_ h.out.a) D hD N hN).mono fun e w' ⟨P, n, c, he, h1, h2, h3⟩ => ⟨P, n, c, he, h1, Hid.mk_ h1.out.row.1, Hid.mk_ (h.out.leftD h2.out h3.out), h3⟩
theorem dsetR (w : World) (ga gr : Nat) (A R : Option Addr) (L M : List Mom) (id at_ : Int) (h : Hid (Duo w ga A L gr R M)) (hst : Hid (St M)) (q : Bool) (hq : Hid (q = okM id at_)) (N : List Mom) (hN : Hid (N = setLq id at_ M)) :
    Calls Try.prog 24 #[.pointer (some ⟨gr, 0, none⟩), .int .i64 id, .int .i64 at_] w fun e w' => e = .returned (.bool q) ∧ ∃ R', Hid (Duo w' ga A L gr R' N) ∧ Hid (Wr w w' (fun k => k = gr)) :=
  (rset0 w gr R M id at_ (Hid.mk_ h.out.r) hst q hq N hN).mono fun e w' ⟨he, t⟩ => by
    obtain ⟨A', h1, h2⟩ := h.out.right t.out
    exact ⟨he, A', Hid.mk_ h1, Hid.mk_ h2⟩
theorem dcutR (w : World) (ga gr : Nat) (A R : Option Addr) (L M : List Mom) (id : Int) (h : Hid (Duo w ga A L gr R M)) (hst : Hid (St M)) (q : Bool) (hq : Hid (q = has id M)) (N : List Mom) (hN : Hid (N = without id M)) :
    Calls Try.prog 21 #[.pointer (some ⟨gr, 0, none⟩), .int .i64 id] w fun e w' => e = .returned (.bool q) ∧ ∃ R', Hid (Duo w' ga A L gr R' N) ∧ Hid (Wr w w' (fun k => k = gr)) :=
  (rcut w gr R M id (Hid.mk_ h.out.r) hst q hq N hN).mono fun e w' ⟨he, t⟩ => by
    obtain ⟨A', h1, h2⟩ := h.out.right t.out
    exact ⟨he, A', Hid.mk_ h1, Hid.mk_ h2⟩
theorem ddueR (w : World) (ga gr : Nat) (A R : Option Addr) (L M : List Mom) (now : Int) (h : Hid (Duo w ga A L gr R M)) (hst : Hid (St M)) (D : List Int) (hD : Hid (dueL now M = D)) (N : List Mom) (hN : Hid (restL now M = N)) :
    Calls Try.prog 23 #[.pointer (some ⟨gr, 0, none⟩), .int .i64 now] w fun e w' => ∃ P n c, e = .returned (.slice P n c) ∧ Hid (Own w' w.heap.size (.slice P n c) D) ∧ Hid (n = D.length) ∧ ∃ R', Hid (Duo w' ga A L gr R' N) ∧ Hid (Wr w w' (fun k => k = gr)) :=
  (rdue w gr R M now (Hid.mk_ h.out.r) hst D hD N hN).mono fun e w' ⟨P, n, c, he, h1, t⟩ => by
    obtain ⟨A', h2, h3⟩ := h.out.right t.out
    exact ⟨P, n, c, he, h1, Hid.mk_ h1.out.row.1, A', Hid.mk_ h2, Hid.mk_ h3⟩
theorem Duo.wrA {w w' : World} {ga gr : Nat} {A R : Option Addr} {L M : List Mom} (h : Duo w ga A L gr R M) (r : Wr w w' (Its ga A)) {z : Nat} (hz : z ≤ ga) : Below z w w' := h.a.wrBelow r hz
theorem Duo.wrR {w w' : World} {ga gr : Nat} {A R : Option Addr} {L M : List Mom} (h : Duo w ga A L gr R M) (r : Wr w w' (fun k => k = gr)) {z : Nat} (hz : z ≤ gr) : Below z w w' :=
  r.below (by have := (h.r.its gr (.inl rfl)).2; omega) (fun k hk => by omega)
end Go.Proofs.Ytoikadgfbjjfiaa.Wat
