/- Chapter 3: a queue's functions: Put. Conditions: the row lies in a block of its own. -/
import Derived.Test.YtoikadgfbjjfiaaRpJ
namespace Go.Proofs.Ytoikadgfbjjfiaa.Rum
open Go.RowKit Kit Go.Shelf Hth Tri3
set_option linter.unusedVariables false
theorem Lt.ins {o : Int} {L : List Tld} (h : Lt o L) (ho : 1 ≤ o) (c : Cl) : Lt o (ins (tl c) L) := fun t ht => by
  rcases ins_mem.1 ht with rfl | ht
  · exact ⟨Int.le_refl 0, by show (0 : Int) < o; omega⟩
  · exact h t ht
theorem Lt.without {o : Int} {L : List Tld} (h : Lt o L) (id : Int) : Lt o (without id L) := fun t ht => h t (without_mem.1 ht).1
theorem put_nil (c : Cl) (w : World) : Calls Try.prog 32 #[.pointer none, .agg #[.int .i64 c.n, .int .i64 c.i, .int .i64 c.h]] w fun e w' => e = .returned (.bool false) ∧ Below w.heap.size w w' := by
  go_enter Try.func32, Try.ntmps32
  go_wp2_with fail
  go_ret
  exact ⟨rfl, (Below.refl _ w).alloc (Nat.le_refl _) _⟩
theorem put_bad (w : World) (a : Option Addr) (c : Cl) (hg : good c = false) : Calls Try.prog 32 #[.pointer a, .agg #[.int .i64 c.n, .int .i64 c.i, .int .i64 c.h]] w fun e w' => e = .returned (.bool false) ∧ Below w.heap.size w w' := by
  cases a with
  | none => exact put_nil c w
  | some a =>
  have bx := Hid.mk_ (Box3.made w c.n c.i c.h)
  have hal := Hid.mk_ ((Below.refl w.heap.size w).alloc (Nat.le_refl _) (.cells #[.int .i64 c.n, .int .i64 c.i, .int .i64 c.h] 53))
  cases hm : mayC c.n c.i c.h with
  | false =>
    have HM := Hid.mk_ hm.symm
    clear hm hg
    obtain ⟨x0, x1, x2, f0, f1, f2⟩ := bx.out
    go_enter Try.func32, Try.ntmps32
    go_upto_region 1 with fail
    generalize w.alloc (.cells #[.int .i64 c.n, .int .i64 c.i, .int .i64 c.h] 53) = w1 at *
    go_wp2_with (go_at_call 39; refine (may1 _ _ _ _ false HM).mono ?_; rintro e w2 ⟨rfl, b2⟩)
    go_ret
    exact ⟨rfl, hal.out.trans (b2.mono hal.out.size)⟩
  | true =>
    have h0 : (c.h == 0) = true := by unfold good at hg; rw [hm] at hg; simpa using hg
    have HM := Hid.mk_ hm.symm
    clear hm hg
    obtain ⟨x0, x1, x2, f0, f1, f2⟩ := bx.out
    go_enter Try.func32, Try.ntmps32
    go_upto_region 1 with fail
    generalize w.alloc (.cells #[.int .i64 c.n, .int .i64 c.i, .int .i64 c.h] 53) = w1 at *
    go_wp2_with (go_at_call 39; refine (may1 _ _ _ _ true HM).mono ?_; rintro e w2 ⟨rfl, b2⟩; have y2 := keep1 b2 x2)
    go_ret
    exact ⟨rfl, hal.out.trans (b2.mono hal.out.size)⟩
set_option maxRecDepth 100000 in
set_option maxHeartbeats 4000000 in
theorem put0 (w : World) (g : Nat) (o : Int) (A : Option Addr) (L : List Tld) (c : Cl) (h : Hid (Que w g o A L)) (q : Bool) (hq : Hid (q = putB c L)) (M : List Tld) (hM : Hid (M = putQ c L)) :
    Calls Try.prog 32 #[.pointer (some ⟨g, 0, none⟩), .agg #[.int .i64 c.n, .int .i64 c.i, .int .i64 c.h]] w fun e w' => e = .returned (.bool q) ∧ Hid (Turn w w' g o A M) := by
  cases hgd : good c with
  | false =>
    have e1 : putB c L = false := by unfold putB; rw [hgd]; rfl
    have eq : q = false := by rw [hq.out, e1]
    have eM : M = L := by rw [hM.out]; unfold putQ; rw [e1]; rfl
    subst eq eM
    refine (put_bad w _ c hgd).mono ?_
    rintro e w2 ⟨rfl, b2⟩
    exact ⟨rfl, Hid.mk_ (Turn.of_below h.out b2)⟩
  | true =>
  have bx := Hid.mk_ (Box3.made w c.n c.i c.h)
  have hal := Hid.mk_ ((Below.refl w.heap.size w).alloc (Nat.le_refl _) (.cells #[.int .i64 c.n, .int .i64 c.i, .int .i64 c.h] 53))
  have hmh : mayC c.n c.i c.h = true ∧ (c.h == 0) = false := by unfold good at hgd; simpa using hgd
  have HM := Hid.mk_ hmh.1.symm
  have h0 := hmh.2
  have hok := Hid.mk_ ((good_iff c).1 hgd)
  have hpos : q = match qof c.n L with | some t => decide (0 < cmpC c.i c.h t.inc t.hl) | none => true := by
    rw [hq.out, putB, hgd]; rfl
  have HP := Hid.mk_ hpos
  have HM2 : Hid (M = if q then ins (tl c) (without c.n L) else L) := Hid.mk_ (by rw [hM.out, putQ, ← hq.out])
  clear hq hM hgd hmh hpos
  obtain ⟨x0, x1, x2, f0, f1, f2⟩ := bx.out
  have hgz := Hid.mk_ (h.out.lt')
  have HI := Hid.mk_ h.out.its
  go_enter Try.func32, Try.ntmps32
  go_upto_region 1 with fail
  generalize w.alloc (.cells #[.int .i64 c.n, .int .i64 c.i, .int .i64 c.h] 53) = w1 at *
  obtain ⟨z, hz⟩ : ∃ z, z = w.heap.size := ⟨_, rfl⟩
  have HZ := Hid.mk_ hz
  rw [← hz] at bx x0 x1 x2 f0 f1 f2 ⊢
  clear hz
  go_upto_region 3 with (go_at_call 39; refine (may1 _ _ _ _ true HM).mono ?_; rintro e w2 ⟨rfl, b2⟩; have y2 := keep1 b2 x2)
  have B2 := Hid.mk_ (hal.out.trans (b2.mono hal.out.size))
  have bx2 := Hid.mk_ (bx.out.keep b2)
  have h2 := Hid.mk_ (h.out.below B2.out)
  clear x0 x1 x2 f0 f1 f2 b2 y2 bx hal
  obtain ⟨n, cc, hs, p1, p2, p3⟩ := h2.out.ex
  have hn : n ≤ 1000 := by have := h2.out.st.len; have := p1.len; have := p3.length_eq; omega
  have hcon := place c.n (Hid.mk_ p1) (by omega) _ (Hid.mk_ rfl)
  obtain ⟨x0, x1, x2, f0, f1, f2⟩ := bx2.out
  rcases plc_cases hs c.n with ⟨e, hne⟩ | ⟨i, e, hi, hid⟩
  · rw [e] at hcon
    have hne' : ∀ t ∈ L, t.node ≠ c.n := fun t ht => hne t (p3.mem_iff.2 ht)
    have eq : q = true := by rw [HP.out, qof_none hne']
    have eM : M = ins (tl c) L := by rw [HM2.out, eq, if_pos rfl, without_self hne']
    subst eq
    have P1 := Hid.mk_ p1
    have P2 := Hid.mk_ (push_state (tl c) p2 p3)
    have EM := Hid.mk_ eM
    have HNE := Hid.mk_ hne'
    have hn1 : n < 1000000 := by omega
    clear e p1 p2 p3 hne hne' eM HP HM2
    go_upto_region 8 with (go_at_call 46; refine hcon.mono ?_; rintro e w3 ⟨rfl, b3⟩)
    have bx3 := Hid.mk_ (bx2.out.keep b3)
    have P3 := Hid.mk_ (P1.out.below b3)
    have B3 := Hid.mk_ (B2.out.trans (b3.mono B2.out.size))
    clear x0 x1 x2 f0 f1 f2 bx2 P1 B2 b3 hcon
    obtain ⟨x0, x1, x2, f0, f1, f2⟩ := bx3.out
    have NQ : Hid (¬ Its g A z) := Hid.mk_ (fun hh => by have := HI.out z hh; have := HZ.out; omega)
    go_region_held3 (fun w' => w'.cell? ⟨z, 0, none⟩ = some (.int .i64 c.n) ∧ w'.cell? ⟨z, 1, none⟩ = some (.int .i64 c.i) ∧ w'.cell? ⟨z, 2, none⟩ = some (.int .i64 c.h)) (first | exact ⟨by assumption, by assumption, by assumption⟩ | go_keep) (first
      | (go_at_call 41; refine (push (o := o) (w := w3.drew) (n := n) (c := cc) (A := A) (hs := hs) (tl c) (by exact Hid.mk_ (P3.out.below (Below.refl _ _).drew)) hn1).mono ?_; rintro e w4 ⟨rfl, A4, n4, c4, h4, f4, r4⟩; have s0 := r4.out.cell (by exact x0) NQ.out; have s1 := r4.out.cell (by exact x1) NQ.out; have s2 := r4.out.cell (by exact x2) NQ.out)
      | fail)
    go_wp2_with fail
    go_ret
    have hd : Below w.heap.size w w3.drew := B3.out.drew
    refine ⟨rfl, Hid.mk_ ⟨A4, ⟨by rw [EM.out]; exact h.out.st.ins HNE.out hok.out, by rw [EM.out]; exact h.out.lt.ins h.out.ob.1 c, h.out.ob, n4, c4, _, h4.out, P2.out.1, by rw [EM.out]; exact P2.out.2⟩, fun b off e => ?_, (Wr.of_below hd _).then_ r4.out (fun i hi => .inl hi)⟩⟩
    rcases f4.out b off e with h5 | h5
    · exact .inl h5
    · exact .inr (Nat.le_trans hd.size h5)
  · rw [e] at hcon
    have hm : fn hs i ∈ L := p3.mem_iff.1 (by rw [fn_eq hi]; exact List.getElem_mem hi)
    obtain ⟨t, ht⟩ : ∃ t, t = fn hs i := ⟨_, rfl⟩
    rw [← ht] at hm hid
    have eqf : qof c.n L = some t := by rw [← hid]; exact h.out.st.find hm
    obtain ⟨r, hr⟩ : ∃ r, r = cmpC c.i c.h t.inc t.hl := ⟨_, rfl⟩
    have HR := Hid.mk_ hr
    have eq : q = decide (0 < r) := by rw [HP.out, eqf, hr]
    have i0 : (0 : Int) ≤ (i : Int) := by omega
    have i1 : (i : Int) < (n : Int) := by have := p1.len; omega
    obtain ⟨b, rfl, _, _⟩ := p1.own.some_ (by omega)
    obtain ⟨k, hk⟩ : ∃ k, n = k + 1 := ⟨n - 1, by have := p1.len; omega⟩
    have hlk : hs.length = k + 1 := p1.len.symm.trans hk
    have hik : i ≤ k := by omega
    have P1 := Hid.mk_ p1
    have HT := Hid.mk_ ht
    have HI' := Hid.mk_ hi
    have HK := Hid.mk_ hk
    have RS := Hid.mk_ (rem_state (k := k) (id := c.n) p2 p3 h.out.st hlk hik (by rw [← ht]; exact hid))
    have hkn : k < 1000000 := by omega
    have NQ : Hid (¬ Its g (some ⟨b, 0, none⟩) z) := Hid.mk_ (fun hh => by have := HI.out z hh; have := HZ.out; omega)
    clear e p1 p2 p3 HP eqf hr hid hm ht hi hk hlk
    go_upto_region 5 with (go_at_call 46; refine hcon.mono ?_; rintro e w3 ⟨rfl, b3⟩)
    have bx3 := Hid.mk_ (bx2.out.keep b3)
    have P3 := Hid.mk_ (P1.out.below b3)
    have B3 := Hid.mk_ (B2.out.trans (b3.mono B2.out.size))
    clear x0 x1 x2 f0 f1 f2 bx2 P1 B2 b3 hcon
    obtain ⟨x0, x1, x2, f0, f1, f2⟩ := bx3.out
    have k1 := P3.out.cell
    obtain ⟨⟨y0, y1, y2, y3⟩, _⟩ := P3.out.own.at_ i t (by rw [HT.out]; exact fn_get HI'.out)
    have lt1 := bx3.out.lt
    have lt2 := P3.out.lt
    have lt3 := (P3.out.own.block b 0 rfl).2
    refine wp_draws _ (Below.refl _ _) (by kernel_rfl) (by kernel_rfl) (fun hne hN => ?_)
    repeat (go_big_quiet_step (first | (go_at_call 40; with_reducible exact After.calls (compare1 c.n c.i c.h t.node t.inc t.hl _ r HR))))
    refine wpQuiet_nil (after_cells ?_)
    intro w4 b4 hc4
    have bx4 := Hid.mk_ (bx3.out.keep b4)
    have P4 := Hid.mk_ (P3.out.below b4)
    have B4 := Hid.mk_ (B3.out.trans (b4.mono B3.out.size))
    clear x0 x1 x2 f0 f1 f2 bx3 P3 B3 b4 hc4 k1 y0 y1 y2 y3 lt1 lt2 lt3 hne hN
    by_cases hr0 : 0 < r
    · have e1 : q = true := by rw [eq]; exact decide_eq_true hr0
      have EM : Hid (M = ins (tl c) (without c.n L)) := Hid.mk_ (by rw [HM2.out, e1, if_pos rfl])
      subst e1
      have hr1 : ¬ r ≤ 0 := by omega
      clear eq HM2
      go_upto_region 8 with (go_at_call 44; refine (remove P4 k i HK hik hkn).mono ?_; rintro e w5 ⟨rfl, h5, r5⟩)
      have bx5 : Hid (Box3 w5 z c.n c.i c.h) := Hid.mk_ (by
        obtain ⟨x0, x1, x2, f0, f1, f2⟩ := bx4.out
        have hlt := bx4.out.lt
        exact ⟨r5.out.cell x0 NQ.out, r5.out.cell x1 NQ.out, r5.out.cell x2 NQ.out, (r5.out.frozen hlt NQ.out).trans f0, (r5.out.frozen hlt NQ.out).trans f1, (r5.out.frozen hlt NQ.out).trans f2⟩)
      obtain ⟨x0, x1, x2, f0, f1, f2⟩ := bx5.out
      have PS := Hid.mk_ (push_state (tl c) RS.out.1 RS.out.2)
      go_region_held3 (fun w' => w'.cell? ⟨z, 0, none⟩ = some (.int .i64 c.n) ∧ w'.cell? ⟨z, 1, none⟩ = some (.int .i64 c.i) ∧ w'.cell? ⟨z, 2, none⟩ = some (.int .i64 c.h)) (first | exact ⟨by assumption, by assumption, by assumption⟩ | go_keep) (first
        | (go_at_call 41; refine (push (o := o) (w := w5.drew) (n := k) (c := cc) (A := some ⟨b, 0, none⟩) (tl c) (by exact Hid.mk_ (h5.out.below (Below.refl _ _).drew)) hkn).mono ?_; rintro e w6 ⟨rfl, A6, n6, c6, h6, f6, r6⟩; have s0 := r6.out.cell (by exact x0) NQ.out; have s1 := r6.out.cell (by exact x1) NQ.out; have s2 := r6.out.cell (by exact x2) NQ.out)
        | fail)
      go_wp2_with fail
      go_ret
      have hd : Below w5.heap.size w5 w5.drew := (Below.refl _ _).drew
      have W5 := (Wr.of_below B4.out (Its g (some ⟨b, 0, none⟩))).then_ r5.out (fun i hi => .inl hi)
      have W6 := (W5.then_ (Wr.of_below hd (Its g (some ⟨b, 0, none⟩))) (fun i hi => .inl hi)).then_ r6.out (fun i hi => .inl hi)
      refine ⟨rfl, Hid.mk_ ⟨A6, ⟨by rw [EM.out]; exact (h.out.st.without c.n).ins (fun x hx => (without_mem.1 hx).2) hok.out, by rw [EM.out]; exact (h.out.lt.without c.n).ins h.out.ob.1 c, h.out.ob, n6, c6, _, h6.out, PS.out.1, by rw [EM.out]; exact PS.out.2⟩, fun b' off e => ?_, W6⟩⟩
      rcases f6.out b' off e with h7 | h7
      · exact .inl h7
      · exact .inr (Nat.le_trans W5.size h7)
    · have e1 : q = false := by rw [eq]; exact decide_eq_false hr0
      have EM : Hid (M = L) := Hid.mk_ (by rw [HM2.out, e1]; rfl)
      subst e1
      have hr1 : r ≤ 0 := by omega
      clear eq HM2
      go_wp2_with fail
      go_ret
      exact ⟨rfl, Hid.mk_ (by rw [EM.out]; exact Turn.of_below h.out B4.out)⟩
end Go.Proofs.Ytoikadgfbjjfiaa.Rum
