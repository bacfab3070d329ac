/- Chapter 5: a clock's functions: Due. Conditions: the row lies in a block of its own. -/
import Derived.Test.YtoikadgfbjjfiaaInts
namespace Go.Proofs.Ytoikadgfbjjfiaa.Wat
open Go.RowKit Kit Go.Shelf Ints
set_option linter.unusedVariables false
theorem due_nil (now : Int) (w : World) : Calls Try.prog 18 #[.pointer none, .int .i64 now] w fun e w' => e = .returned (.slice none 0 0) ∧ w' = w := by
  go_enter Try.func18, Try.ntmps18
  go_wp2
  go_loopg [5] 0 (fun gg s5 wr => s5 = .slice none 0 0 ∧ wr = w)
  case atStart => exact ⟨rfl, rfl⟩
  case round =>
    obtain ⟨rfl, rfl⟩ := hrel
    go_wp2_with (go_at_call 19; refine (len_nil _).mono ?_; rintro e w2 ⟨rfl, rfl⟩)
    go_ret
    exact ⟨rfl, rfl⟩
theorem Own.keepW {w w' : World} {base : Nat} {A : Option Addr} {n c : Nat} {zs : List Int} {S : Nat → Prop} (h : Own w base (.slice A n c) zs) (hw : Wr w w' S) (hS : ∀ k, S k → k < base) : Own w' base (.slice A n c) zs := by
  have h' := h
  unfold Own at h ⊢
  refine ⟨h.1, ?_⟩
  rcases h.2 with h1 | ⟨g, cap, cur, h1, h3, h4, h5⟩
  · exact .inl h1
  · injection h1 with e1 e2 e3
    subst e1 e2 e3
    exact .inr ⟨g, _, cur, rfl, h3, (hw.block g (Array.getElem?_eq_some_iff.1 h4).1 (fun hs => by have := hS g hs; omega)).trans h4, h5⟩
theorem Row.one' (w : World) (x : Int) (t : TypeId) (q : Nat) (hq : q = w.heap.size) : Row (w.alloc (.cells #[.int .i64 x] t)) (some ⟨q, 0, none⟩) [x] := by
  subst hq
  exact Row.one w x t
theorem Wr.of_base {w w' : World} {B : Nat} (h : Below B w w') (S : Nat → Prop) {w0 : World} (k : Wr w0 w S) (hB : w0.heap.size ≤ B) : Wr w0 w' S :=
  ⟨h.os.trans k.os, h.tape.trans k.tape, h.output.trans k.output, Nat.le_trans k.size h.size, fun i hi hn => (h.block i (by omega)).trans (k.block i hi hn)⟩
theorem Wr.ofB {w w' : World} {B : Nat} (h : Below B w w') : Wr w w' (fun k => B ≤ k) := ⟨h.os, h.tape, h.output, h.size, fun k hk hn => h.block k (by omega)⟩
set_option maxRecDepth 100000 in
set_option maxHeartbeats 4000000 in
theorem due0 (w : World) (g : Nat) (A : Option Addr) (L : List Mom) (now : Int) (h : Hid (Clk w g A L)) (D : List Int) (hD : Hid (dueL now L = D)) (M : List Mom) (hM : Hid (restL now L = M)) :
    Calls Try.prog 18 #[.pointer (some ⟨g, 0, none⟩), .int .i64 now] w fun e w' => ∃ B n c, e = .returned (.slice B n c) ∧ Hid (Own w' w.heap.size (.slice B n c) D) ∧ Hid (Clk w' g A M) ∧ Hid (Wr w w' (Its g A)) := by
  have hits := Hid.mk_ h.out.its
  have hta := ta
  go_enter Try.func18, Try.ntmps18
  go_wp2
  go_loopg [5] L.length (fun gg s5 wr => ∃ (rest : List Mom) (out : List Int) (B : Option Addr) (n c : Nat), s5 = .slice B n c ∧ rest.length ≤ gg ∧ Hid (out.length + rest.length ≤ 1000) ∧ Hid (Own wr w.heap.size (.slice B n c) out) ∧ Hid (Clk wr g A rest) ∧ Hid (Wr w wr (Its g A)) ∧ Hid (out ++ dueL now rest = D) ∧ Hid (restL now rest = M))
  case atStart => exact ⟨L, [], none, 0, 0, rfl, Nat.le_refl _, Hid.mk_ (by have := h.out.st.len; simp; omega), Hid.mk_ (Own.nil _ _), h, Hid.mk_ (Wr.of_below (Below.refl _ _) _), hD, hM⟩
  case round =>
    obtain ⟨rest, out, B, n, c, rfl, hgg, hlen, hown, hclk, hwr, hD1, hM1⟩ := hrel
    cases rest with
    | nil =>
      go_wp2_with (go_at_call 19; refine (len _ g A [] hclk 0 (Hid.mk_ rfl)).mono ?_; rintro e w2 ⟨rfl, rfl⟩)
      go_ret
      exact ⟨B, n, c, rfl, by rw [← hD1.out]; simpa [dueL] using hown, by rw [← hM1.out]; exact hclk, hwr⟩
    | cons m rest =>
      obtain ⟨hst, n1, c1, hs, p1, p2, p3⟩ := hclk.out
      obtain ⟨k, hk⟩ : ∃ k, n1 = k + 1 := ⟨n1 - 1, by have := p1.len; have := p3.length_eq; simp at this; omega⟩
      have htop := top_head p2 p3 hst.ord
      obtain ⟨b, rfl, hb1, hb2⟩ := p1.own.some_ (by have := p1.len; omega)
      have hcell := p1.cell
      obtain ⟨x0, x1, _, _⟩ := p1.own.at_ 0 (fn hs 0) (fn_get (by have := p1.len; omega))
      rw [htop] at x0 x1
      simp only [Nat.zero_mul, Nat.zero_add] at x0 x1
      have l0 : (0 : Int) < (n1 : Int) := by omega
      obtain ⟨r, hr⟩ : ∃ r : Int, r = ((m :: rest).length : Int) := ⟨_, rfl⟩
      have r0 : (0 : Int) < r := by rw [hr]; simp only [List.length_cons]; omega
      have HR := Hid.mk_ hr
      clear hr htop
      by_cases hat : m.at_ ≤ now
      · obtain ⟨s1, s2, s3⟩ := pop_state p2 p3 hst.ord (k := k) (by have := p1.len; omega)
        have hcon := pop (Hid.mk_ p1) k (Hid.mk_ hk) (by have := hst.len; have := p1.len; have := p3.length_eq; omega)
        rw [s1] at hcon
        unfold boxM at hcon
        have PS := Hid.mk_ (And.intro s2 s3)
        have ST := Hid.mk_ hst
        have HN := Hid.mk_ (And.intro p1.len p3.length_eq)
        have HB := Hid.mk_ (And.intro hb1 hb2)
        clear s1 s2 s3 p1 p2 p3 hst hk hb1 hb2
        go_upto_region 3 with (go_at_call 19; refine (len _ g _ _ hclk r HR).mono ?_; rintro e w2 ⟨rfl, rfl⟩)
        go_wp2_with (first | (go_at_call 42; refine hcon.mono ?_; rintro e w3 ⟨rfl, h4, r4⟩) | (at_builtin; refine wpList_app _ rfl _ _ rfl w.heap.size _ out rfl (((Own.keepW hown.out r4.out hits.out).keep ((Below.refl _ _).alloc (Nat.le_refl _) _)).keep ((Below.refl _ _).alloc (Nat.le_refl _) _)) _ [m.id] 1 _ rfl rfl (Row.one' _ _ _ _ (by simp)) (by have := hlen.out; simp at this ⊢; omega) (by have := hwr.out.size; have := r4.out.size; simp; omega) ?_; intro v5 w5 own5 b5))
        obtain ⟨B5, c5, rfl, _⟩ := own5.form
        have bb := ((Below.refl w3.heap.size w3).alloc (Nat.le_refl _) (.cells #[.int .i64 m.id, .int .i64 m.at_] 82)).alloc (by simp) (.cells #[.int .i64 m.id] 3)
        have K3 : Clk w3 g (some ⟨b, 0, none⟩) rest := ⟨⟨(List.pairwise_cons.1 ST.out.ord).2, (List.nodup_cons.1 (by simpa using ST.out.nodup)).2, fun x hx => ST.out.id0 x (List.mem_cons_of_mem _ hx), fun x hx => ST.out.at0 x (List.mem_cons_of_mem _ hx)⟩, _, _, _, h4.out, PS.out.1, PS.out.2⟩
        have W3 := hwr.out.then_ r4.out (fun i hi => .inl hi)
        have W5 := Wr.of_base b5 _ (W3.then_ (Wr.of_below bb (fun _ => False)) (fun i hi => hi.elim)) (Nat.le_refl _)
        have K5 := (K3.below bb).wr (Wr.ofB b5) (fun k hk hn => by have := hits.out k hk; omega)
        go_roundg rest.length
        case measure => simp at hgg; omega
        case rel => exact ⟨rest, out ++ [m.id], B5, _, c5, rfl, Nat.le_refl _, Hid.mk_ (by have := hlen.out; simp at this ⊢; omega), Hid.mk_ own5, Hid.mk_ K5, Hid.mk_ W5, Hid.mk_ (by have := hD1.out; rw [(due_cons_yes hat).1] at this; simpa using this), Hid.mk_ (by have := hM1.out; rw [(due_cons_yes hat).2] at this; exact this)⟩
      · go_wp2_with (go_at_call 19; refine (len _ g _ _ hclk r HR).mono ?_; rintro e w2 ⟨rfl, rfl⟩)
        go_ret
        obtain ⟨d1, d2⟩ := due_cons_no hst.ord (now := now) (by omega)
        exact ⟨B, n, c, rfl, by rw [← hD1.out, d1]; simpa using hown, by rw [← hM1.out, d2]; exact hclk, hwr⟩
end Go.Proofs.Ytoikadgfbjjfiaa.Wat
