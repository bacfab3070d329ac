/- Chapter 5: moments that every program must know to wait for. No condition. -/
import Derived.Test.YtoikadgfbjjfiaaHpM
namespace Go.Proofs.Ytoikadgfbjjfiaa.Wat
open Go.RowKit Kit Go.Shelf Ints
set_option linter.unusedVariables false
theorem Clk.ge {w : World} {g : Nat} {A : Option Addr} {L : List Mom} (h : Clk w g A L) : ∀ k, Its g A k → g ≤ k := by
  obtain ⟨h1, n, c, hs, h2, h3, h4⟩ := h
  rintro k (rfl | ⟨off, rfl⟩)
  · exact Nat.le_refl _
  · have := (h2.own.block k off rfl).1
    omega
theorem Clk.lt {w : World} {g : Nat} {A : Option Addr} {L : List Mom} (h : Clk w g A L) : g < w.heap.size := h.its g (.inl rfl)
theorem Turn.below {w w' : World} {g : Nat} {A : Option Addr} {L M : List Mom} (h : Turn w w' g A M) (hc : Clk w g A L) {B : Nat} (hB : B ≤ g) : Below B w w' := by
  obtain ⟨A', h1, h2, h3⟩ := h
  exact h3.below (by have := hc.lt; omega) (fun k hk => by have := hc.ge k hk; omega)
theorem Clk.wrBelow {w w' : World} {g : Nat} {A : Option Addr} {L : List Mom} (hc : Clk w g A L) (h : Wr w w' (Its g A)) {B : Nat} (hB : B ≤ g) : Below B w w' :=
  h.below (by have := hc.lt; omega) (fun k hk => by have := hc.ge k hk; omega)
theorem aw1 : setLq 1 5 [] = [⟨1, 5⟩] := by kernel_rfl
theorem aw2 : setLq 2 3 [⟨1, 5⟩] = [⟨2, 3⟩, ⟨1, 5⟩] := by kernel_rfl
theorem aw3 : dueL 5 [⟨2, 3⟩, ⟨1, 5⟩] = [2, 1] := by kernel_rfl
theorem aw4 : restL 5 [⟨2, 3⟩, ⟨1, 5⟩] = [] := by kernel_rfl
theorem aw5 : okM 1 5 = true := by kernel_rfl
theorem aw6 : okM 2 3 = true := by kernel_rfl
set_option maxRecDepth 100000 in
set_option maxHeartbeats 1000000 in
theorem awake (w : World) : Calls Try.prog 15 #[] w fun e w' => e = .returned (.bool true) ∧ Below w.heap.size w w' := by
  go_enter Try.func15, Try.ntmps15
  go_upto_region 2 with (go_at_call 16; refine (new0 _).mono ?_; rintro e w1 ⟨g, rfl, h1, hg, b1⟩)
  go_upto_region 3 with (first
    | (go_at_call 17; refine (set0 _ g none [] 1 5 h1 true (Hid.mk_ aw5.symm) [⟨1, 5⟩] (Hid.mk_ aw1.symm)).mono ?_; rintro e w2 ⟨rfl, t2⟩; obtain ⟨A2, k2, f2, r2⟩ := t2.out; have c2 := h1.out.wrBelow r2 hg.out; have h2 := Hid.mk_ k2; clear h1)
    | (go_at_call 17; refine (set0 _ g A2 _ 2 3 h2 true (Hid.mk_ aw6.symm) [⟨2, 3⟩, ⟨1, 5⟩] (Hid.mk_ aw2.symm)).mono ?_; rintro e w3 ⟨rfl, t3⟩; obtain ⟨A3, k3, f3, r3⟩ := t3.out; have c3 := k2.wrBelow r3 hg.out; have h3 := Hid.mk_ k3))
  clear t2 k2 f2 t3 f3 r2 r3
  go_upto_region 4 with (go_at_call 18; refine (due0 _ g A3 _ 5 h3 [2, 1] (Hid.mk_ aw3) [] (Hid.mk_ aw4)).mono ?_; rintro e w4 ⟨B, n, c, rfl, o4, h4, r4⟩)
  have c4 := k3.wrBelow r4.out hg.out
  obtain ⟨en, _, _⟩ := o4.out.row
  simp only [List.length_cons, List.length_nil] at en
  subst en
  obtain ⟨q, rfl, hq1, hq2, hq⟩ := o4.out.some_ (by simp)
  obtain ⟨d0, _⟩ := hq 0 2 rfl
  obtain ⟨d1, _⟩ := hq 1 1 rfl
  clear hq
  go_wp2_with (go_at_call 19; refine (len _ g A3 [] h4 0 (Hid.mk_ rfl)).mono ?_; rintro e w5 ⟨rfl, rfl⟩)
  go_ret
  exact ⟨rfl, (((b1.trans c2).trans c3).trans c4)⟩
end Go.Proofs.Ytoikadgfbjjfiaa.Wat
