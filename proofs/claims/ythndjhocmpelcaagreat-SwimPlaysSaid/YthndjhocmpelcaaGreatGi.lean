/- A detector, second part. Conditions: as each theorem says. -/
import Derived.Test.YthndjhocmpelcaaGreatSwF
namespace Go.Proofs.YthndjhocmpelcaaGreat.Swi
open Go.RowKit Kit Hth Tri3
set_option linter.unusedVariables false
theorem inc0 (w : World) (S : Nat → Prop) (g : Nat) (d : Dt) (hD : Hid (Det w S g d)) (x : Int) (hx : Hid (x = d.inc)) : Calls Tryz.prog 17 #[.pointer (some ⟨g, 0, none⟩)] w fun e w' => e = .returned (.int .i64 x) ∧ w' = w := by
  obtain ⟨gv, gq, go, gc, A, B, n, c, C, X⟩ := hD.out
  have c0 : w.cell? ⟨g, 1, none⟩ = some (.int .i64 x) := by rw [hx.out]; exact X.dcs.cell 1
  clear X
  go_enter Tryz.func17, Tryz.ntmps17
  go_wp2_with fail
  go_ret
  exact ⟨rfl, rfl⟩
theorem now0 (w : World) (S : Nat → Prop) (g : Nat) (d : Dt) (hD : Hid (Det w S g d)) (x : Int) (hx : Hid (x = d.now)) : Calls Tryz.prog 18 #[.pointer (some ⟨g, 0, none⟩)] w fun e w' => e = .returned (.int .i64 x) ∧ w' = w := by
  obtain ⟨gv, gq, go, gc, A, B, n, c, C, X⟩ := hD.out
  have c0 : w.cell? ⟨g, 6, none⟩ = some (.int .i64 x) := by rw [hx.out]; exact X.dcs.cell 6
  clear X
  go_enter Tryz.func18, Tryz.ntmps18
  go_wp2_with fail
  go_ret
  exact ⟨rfl, rfl⟩
theorem over0 (w : World) (S : Nat → Prop) (g : Nat) (d : Dt) (hD : Hid (Det w S g d)) (x : Bool) (hx : Hid (x = d.over)) : Calls Tryz.prog 19 #[.pointer (some ⟨g, 0, none⟩)] w fun e w' => e = .returned (.bool x) ∧ w' = w := by
  obtain ⟨gv, gq, go, gc, A, B, n, c, C, X⟩ := hD.out
  have c0 : w.cell? ⟨g, 9, none⟩ = some (.bool x) := by rw [hx.out]; exact X.dcs.cell 9
  clear X
  go_enter Tryz.func19, Tryz.ntmps19
  go_wp2_with fail
  go_ret
  exact ⟨rfl, rfl⟩
theorem inc_nil (w : World) : Calls Tryz.prog 17 #[.pointer none] w fun e w' => e = .returned (.int .i64 0) ∧ w' = w := by
  go_enter Tryz.func17, Tryz.ntmps17
  go_wp2_with fail
  go_ret
  exact ⟨rfl, rfl⟩
theorem now_nil (w : World) : Calls Tryz.prog 18 #[.pointer none] w fun e w' => e = .returned (.int .i64 0) ∧ w' = w := by
  go_enter Tryz.func18, Tryz.ntmps18
  go_wp2_with fail
  go_ret
  exact ⟨rfl, rfl⟩
theorem over_nil (w : World) : Calls Tryz.prog 19 #[.pointer none] w fun e w' => e = .returned (.bool false) ∧ w' = w := by
  go_enter Tryz.func19, Tryz.ntmps19
  go_wp2_with fail
  go_ret
  exact ⟨rfl, rfl⟩
theorem all_nil (w : World) : Calls Tryz.prog 21 #[.pointer none] w fun e w' => e = .returned (.slice none 0 0) ∧ w' = w := by
  go_enter Tryz.func21, Tryz.ntmps21
  go_wp2_with fail
  go_ret
  exact ⟨rfl, rfl⟩
theorem all1 (w : World) (S : Nat → Prop) (g : Nat) (d : Dt) (hD : Hid (Det w S g d)) : Calls Tryz.prog 21 #[.pointer (some ⟨g, 0, none⟩)] w (Bel.Listed w (fun k => !(d.q k == 0)) d.p d.q) := by
  obtain ⟨gv, gq, go, gc, A, B, n, c, C, X⟩ := hD.out
  have c0 : w.cell? ⟨g, 2, none⟩ = some (.pointer (some ⟨gv, 0, none⟩)) := X.dcs.cell 2
  have V := Hid.mk_ X.vw
  clear X
  go_enter Tryz.func21, Tryz.ntmps21
  go_wp2_with (go_at_call 58; refine (Bel.all0 d.p d.q gv w V).mono ?_; rintro e w2 ⟨v, rfl, h1, h2⟩)
  go_ret
  exact ⟨v, rfl, h1, h2⟩
theorem hear_bad (w : World) (a : Option Addr) (c : Cl) (hg : mayC c.n c.i c.h = false ∨ c.h = 0 ∨ a = none) : Calls Tryz.prog 8 #[.pointer a, .agg #[.int .i64 c.n, .int .i64 c.i, .int .i64 c.h]] w fun e w' => e = .returned (.int .i64 1) ∧ Below w.heap.size w w' := by
  have bx := Hid.mk_ (Rum.Box3.made w c.n c.i c.h)
  have al := Hid.mk_ ((Below.refl w.heap.size w).alloc (Nat.le_refl _) (.cells #[.int .i64 c.n, .int .i64 c.i, .int .i64 c.h] 30))
  cases a with
  | none =>
    go_enter Tryz.func8, Tryz.ntmps8
    go_wp2_with fail
    go_ret
    exact ⟨rfl, al.out⟩
  | some a =>
    obtain ⟨x0, x1, x2, _, _, _⟩ := bx.out
    cases hm : mayC c.n c.i c.h with
    | false =>
      have HM := Hid.mk_ hm.symm
      clear hm hg
      go_enter Tryz.func8, Tryz.ntmps8
      go_upto_region 1 with fail
      generalize w.alloc (.cells #[.int .i64 c.n, .int .i64 c.i, .int .i64 c.h] 30) = w1 at *
      go_wp2_with (go_at_call 35; refine (Hth.may1 _ _ _ _ false HM).mono ?_; rintro e w2 ⟨rfl, b2⟩)
      go_ret
      exact ⟨rfl, al.out.trans (b2.mono al.out.size)⟩
    | true =>
      have h0 : (c.h == 0) = true := by
        rcases hg with h | h | h
        · rw [hm] at h; cases h
        · simp [h]
        · cases h
      have HM := Hid.mk_ hm.symm
      clear hm hg
      go_enter Tryz.func8, Tryz.ntmps8
      go_upto_region 1 with fail
      generalize w.alloc (.cells #[.int .i64 c.n, .int .i64 c.i, .int .i64 c.h] 30) = w1 at *
      go_wp2_with (go_at_call 35; refine (Hth.may1 _ _ _ _ true HM).mono ?_; rintro e w2 ⟨rfl, b2⟩; have y2 := keepC b2 x2)
      go_ret
      exact ⟨rfl, al.out.trans (b2.mono al.out.size)⟩
/-- Hear a claim, whatever it is. -/
def goodC (c : Cl) : Bool := mayC c.n c.i c.h && !(c.h == 0)
def dHear (d : Dt) (c : Cl) : Dt := if goodC c then dHears d c else d
def hE (d : Dt) (c : Cl) : Int := if goodC c then heE d c else 1
set_option maxHeartbeats 2000000 in
theorem hear1 (w : World) (S : Nat → Prop) (g : Nat) (d : Dt) (c : Cl) (hD : Hid (Det w S g d)) (d' : Dt) (hd : Hid (d' = dHear d c)) (e0 : Int) (he : Hid (e0 = hE d c)) :
    Calls Tryz.prog 8 #[.pointer (some ⟨g, 0, none⟩), .agg #[.int .i64 c.n, .int .i64 c.i, .int .i64 c.h]] w fun e w' => e = .returned (.int .i64 e0) ∧ Hid (DTurn w w' S g d') := by
  cases hg : goodC c with
  | false =>
    have e1 : e0 = 1 := by rw [he.out]; unfold hE; rw [hg]; rfl
    have e2 : d' = d := by rw [hd.out]; unfold dHear; rw [hg]; rfl
    subst e1 e2
    refine (hear_bad w _ c ?_).mono ?_
    · unfold goodC at hg
      cases hm : mayC c.n c.i c.h with
      | false => exact .inl rfl
      | true => rw [hm] at hg; exact .inr (.inl (by simpa using hg))
    · rintro e w' ⟨rfl, b⟩
      exact ⟨rfl, Hid.mk_ (DTurn.of_below hD.out b)⟩
  | true =>
    have hm : true = mayC c.n c.i c.h := by unfold goodC at hg; simp at hg; exact hg.1.symm
    have h0 : (c.h == 0) = false := by unfold goodC at hg; simp at hg; simpa using hg.2
    have HE : Hid (e0 = heE d c) := Hid.mk_ (by rw [he.out]; unfold hE; rw [hg]; rfl)
    have HD : Hid (d' = dHears d c) := Hid.mk_ (by rw [hd.out]; unfold dHear; rw [hg]; rfl)
    have bx := Hid.mk_ (Rum.Box3.made w c.n c.i c.h)
    have al := Hid.mk_ ((Below.refl w.heap.size w).alloc (Nat.le_refl _) (.cells #[.int .i64 c.n, .int .i64 c.i, .int .i64 c.h] 30))
    have HM := Hid.mk_ hm
    clear hm hg he hd
    obtain ⟨x0, x1, x2, _, _, _⟩ := bx.out
    go_enter Tryz.func8, Tryz.ntmps8
    go_upto_region 1 with fail
    generalize w.alloc (.cells #[.int .i64 c.n, .int .i64 c.i, .int .i64 c.h] 30) = w1 at *
    go_wp2_with (first
      | (go_at_call 35; refine (Hth.may1 _ _ _ _ true HM).mono ?_; rintro e w2 ⟨rfl, b2⟩; have y0 := keepC b2 x0; have y1 := keepC b2 x1; have y2 := keepC b2 x2)
      | (go_at_call 36; refine (hears w2 S g d c (Hid.mk_ (hD.out.below (al.out.trans (b2.mono al.out.size)))) HM d' HD e0 HE).mono ?_; rintro e w3 ⟨rfl, t3⟩))
    go_ret
    exact ⟨rfl, Hid.mk_ (DTurn.after (Rum.Wr.of_below (al.out.trans (b2.mono al.out.size)) S) (fun k hk => .inl hk) t3.out)⟩
end Go.Proofs.YthndjhocmpelcaaGreat.Swi
namespace Go.Proofs.YthndjhocmpelcaaGreat.Swi
open Go.RowKit Kit Hth Tri3
set_option linter.unusedVariables false
theorem of_nil (w : World) (x : Int) : Calls Tryz.prog 23 #[.pointer none, .int .i64 x] w fun e w' => e = .returned (.agg #[.int .i64 0, .int .i64 0, .int .i64 0]) ∧ Below w.heap.size w w' := by
  have bx := Hid.mk_ (Rum.Box3.made w 0 0 0)
  have al := Hid.mk_ ((Below.refl w.heap.size w).alloc (Nat.le_refl _) (.cells #[.int .i64 0, .int .i64 0, .int .i64 0] 30))
  go_enter Tryz.func23, Tryz.ntmps23
  go_upto_region 1 with fail
  generalize w.alloc (.cells #[.int .i64 0, .int .i64 0, .int .i64 0] 30) = w1 at *
  obtain ⟨z, hz⟩ : ∃ z, z = w.heap.size := ⟨_, rfl⟩
  have HZ := Hid.mk_ hz
  rw [← hz] at bx ⊢
  clear hz
  obtain ⟨x0, x1, x2, f0, f1, f2⟩ := bx.out
  go_wp2_with fail
  have b4 := bx.out.set 0 0 0
  have z4 := Rum.below_set (o := 2) (v := .int .i64 0) (Rum.below_set (o := 1) (v := .int .i64 0) (Rum.below_set (o := 0) (v := .int .i64 0) al.out (q := z) (by rw [HZ.out]; exact Nat.le_refl _)) (q := z) (by rw [HZ.out]; exact Nat.le_refl _)) (q := z) (by rw [HZ.out]; exact Nat.le_refl _)
  generalize ((w1.setCell ⟨z, 0, none⟩ (.int .i64 0)).setCell ⟨z, 1, none⟩ (.int .i64 0)).setCell ⟨z, 2, none⟩ (.int .i64 0) = w4 at *
  clear x0 x1 x2 f0 f1 f2
  obtain ⟨x0, x1, x2, f0, f1, f2⟩ := b4
  (try simp only [Exit.inBlock, Exit.then])
  refine bodyPost_ret (v := .agg #[.int .i64 0, .int .i64 0, .int .i64 0]) ?_ rfl ⟨rfl, z4⟩
  rw [results_cell1 rfl]
  go_simp
theorem leave_nil (w : World) : Calls Tryz.prog 10 #[.pointer none] w fun e w' => e = .returned (.agg #[.int .i64 0, .int .i64 0, .int .i64 0]) ∧ Below w.heap.size w w' := by
  have bx := Hid.mk_ (Rum.Box3.made w 0 0 0)
  have al := Hid.mk_ ((Below.refl w.heap.size w).alloc (Nat.le_refl _) (.cells #[.int .i64 0, .int .i64 0, .int .i64 0] 30))
  go_enter Tryz.func10, Tryz.ntmps10
  go_upto_region 1 with fail
  generalize w.alloc (.cells #[.int .i64 0, .int .i64 0, .int .i64 0] 30) = w1 at *
  obtain ⟨z, hz⟩ : ∃ z, z = w.heap.size := ⟨_, rfl⟩
  have HZ := Hid.mk_ hz
  rw [← hz] at bx ⊢
  clear hz
  obtain ⟨x0, x1, x2, f0, f1, f2⟩ := bx.out
  go_wp2_with fail
  have b4 := bx.out.set 0 0 0
  have z4 := Rum.below_set (o := 2) (v := .int .i64 0) (Rum.below_set (o := 1) (v := .int .i64 0) (Rum.below_set (o := 0) (v := .int .i64 0) al.out (q := z) (by rw [HZ.out]; exact Nat.le_refl _)) (q := z) (by rw [HZ.out]; exact Nat.le_refl _)) (q := z) (by rw [HZ.out]; exact Nat.le_refl _)
  generalize ((w1.setCell ⟨z, 0, none⟩ (.int .i64 0)).setCell ⟨z, 1, none⟩ (.int .i64 0)).setCell ⟨z, 2, none⟩ (.int .i64 0) = w4 at *
  clear x0 x1 x2 f0 f1 f2
  obtain ⟨x0, x1, x2, f0, f1, f2⟩ := b4
  (try simp only [Exit.inBlock, Exit.then])
  refine bodyPost_ret (v := .agg #[.int .i64 0, .int .i64 0, .int .i64 0]) ?_ rfl ⟨rfl, z4⟩
  rw [results_cell1 rfl]
  go_simp
theorem ofD (w : World) (S : Nat → Prop) (g : Nat) (d : Dt) (x : Int) (hD : Hid (Det w S g d)) (v : Value) (hv : Hid (v = .agg #[.int .i64 (cOf d x).n, .int .i64 (cOf d x).i, .int .i64 (cOf d x).h])) :
    Calls Tryz.prog 23 #[.pointer (some ⟨g, 0, none⟩), .int .i64 x] w fun e w' => e = .returned v ∧ Below w.heap.size w w' := by
  obtain ⟨gv, gq, go, gc, A, B, n, c, C, X⟩ := hD.out
  have bx := Hid.mk_ (Rum.Box3.made w 0 0 0)
  have al := Hid.mk_ ((Below.refl w.heap.size w).alloc (Nat.le_refl _) (.cells #[.int .i64 0, .int .i64 0, .int .i64 0] 30))
  have X1 := Hid.mk_ (X.below al.out)
  clear X
  go_enter Tryz.func23, Tryz.ntmps23
  go_upto_region 1 with fail
  generalize w.alloc (.cells #[.int .i64 0, .int .i64 0, .int .i64 0] 30) = w1 at *
  obtain ⟨z, hz⟩ : ∃ z, z = w.heap.size := ⟨_, rfl⟩
  have HZ := Hid.mk_ hz
  rw [← hz] at bx ⊢
  clear hz
  obtain ⟨x0, x1, x2, f0, f1, f2⟩ := bx.out
  have c2 : w1.cell? ⟨g, 2, none⟩ = some (.pointer (some ⟨gv, 0, none⟩)) := X1.out.dcs.cell 2
  go_wp2_with (go_at_call 50; refine (of1 X1.out x).mono ?_; rintro e w3 ⟨rfl, b3⟩; obtain ⟨y0, y1, y2, g0, g1, g2⟩ := box3k bx.out b3)
  have b4 := (box3k bx.out b3).set (cOf d x).n (cOf d x).i (cOf d x).h
  have z3 := al.out.trans (b3.mono al.out.size)
  have z4 := Rum.below_set (o := 2) (v := .int .i64 (cOf d x).h) (Rum.below_set (o := 1) (v := .int .i64 (cOf d x).i) (Rum.below_set (o := 0) (v := .int .i64 (cOf d x).n) z3 (q := z) (by rw [HZ.out]; exact Nat.le_refl _)) (q := z) (by rw [HZ.out]; exact Nat.le_refl _)) (q := z) (by rw [HZ.out]; exact Nat.le_refl _)
  generalize ((w3.setCell ⟨z, 0, none⟩ (.int .i64 (cOf d x).n)).setCell ⟨z, 1, none⟩ (.int .i64 (cOf d x).i)).setCell ⟨z, 2, none⟩ (.int .i64 (cOf d x).h) = w4 at *
  clear x0 x1 x2 f0 f1 f2
  obtain ⟨x0, x1, x2, f0, f1, f2⟩ := b4
  have ev := hv.out
  clear hv
  subst ev
  (try simp only [Exit.inBlock, Exit.then])
  refine bodyPost_ret (v := .agg #[.int .i64 (cOf d x).n, .int .i64 (cOf d x).i, .int .i64 (cOf d x).h]) ?_ rfl ⟨rfl, z4⟩
  rw [results_cell1 rfl]
  go_simp
end Go.Proofs.YthndjhocmpelcaaGreat.Swi
namespace Go.Proofs.YthndjhocmpelcaaGreat.Swi
open Go.RowKit Kit Hth Tri3
set_option linter.unusedVariables false
def dLeave (d : Dt) : Dt := if d.left then d else dSays { d with left := true } 4
set_option maxRecDepth 100000 in
set_option maxHeartbeats 4000000 in
theorem leave1 (w : World) (S : Nat → Prop) (g : Nat) (d : Dt) (hD : Hid (Det w S g d)) (d' : Dt) (hd : Hid (d' = dLeave d)) (v : Value) (hv : Hid (v = .agg #[.int .i64 d.self, .int .i64 d.inc, .int .i64 4])) :
    Calls Tryz.prog 10 #[.pointer (some ⟨g, 0, none⟩)] w fun e w' => e = .returned v ∧ Hid (DTurn w w' S g d') := by
  obtain ⟨gv, gq, go, gc, A, B, n, c, C, X⟩ := hD.out
  have bx := Hid.mk_ (Rum.Box3.made w 0 0 0)
  have al := Hid.mk_ ((Below.refl w.heap.size w).alloc (Nat.le_refl _) (.cells #[.int .i64 0, .int .i64 0, .int .i64 0] 30))
  have NS := Hid.mk_ X.blk
  have X1 := Hid.mk_ (X.below al.out)
  clear X
  go_enter Tryz.func10, Tryz.ntmps10
  go_upto_region 1 with fail
  generalize w.alloc (.cells #[.int .i64 0, .int .i64 0, .int .i64 0] 30) = w1 at *
  obtain ⟨z, hz⟩ : ∃ z, z = w.heap.size := ⟨_, rfl⟩
  have HZ := Hid.mk_ hz
  have NZ : Hid (∀ k, S k → k < z) := Hid.mk_ (fun k hk => by have := NS.out k hk; omega)
  rw [← hz] at bx ⊢
  clear hz
  have gz : g ≠ z := fun e => by have := NZ.out g X1.out.sg; omega
  obtain ⟨x0, x1, x2, f0, f1, f2⟩ := bx.out
  cases hl : d.left with
  | true =>
    have c10 : w1.cell? ⟨g, 10, none⟩ = some (.bool true) := by rw [← hl]; exact X1.out.dcs.cell 10
    have c0 : w1.cell? ⟨g, 0, none⟩ = some (.int .i64 d.self) := X1.out.dcs.cell 0
    have c1 : w1.cell? ⟨g, 1, none⟩ = some (.int .i64 d.inc) := X1.out.dcs.cell 1
    have ed : d' = d := by rw [hd.out]; unfold dLeave; rw [hl]; rfl
    subst ed
    clear hd hl
    have lt1 := X1.out.dcs.lt
    have lt2 := bx.out.lt
    go_upto_region 4 with fail
    go_region
    go_wp2_with fail
    have b4 := bx.out.set d'.self d'.inc 4
    have ws : Rum.Wr w1 (((w1.setCell ⟨z, 0, none⟩ (.int .i64 d'.self)).setCell ⟨z, 1, none⟩ (.int .i64 d'.inc)).setCell ⟨z, 2, none⟩ (.int .i64 4)) (fun k => k = z) := ((Rum.Wr.set w1 z 0 _).then_ (Rum.Wr.set _ z 1 _) (fun i hi => .inl hi)).then_ (Rum.Wr.set _ z 2 _) (fun i hi => .inl hi)
    generalize ((w1.setCell ⟨z, 0, none⟩ (.int .i64 d'.self)).setCell ⟨z, 1, none⟩ (.int .i64 d'.inc)).setCell ⟨z, 2, none⟩ (.int .i64 4) = w4 at *
    have dr : Below w4.heap.size w4 w4.drew := (Below.refl _ _).drew
    have X4 := (X1.out.wr ws (fun k hk e => by have := NZ.out k hk; omega)).below dr
    have b5 := box3k b4 dr
    have ev := hv.out
    clear hv x0 x1 x2 f0 f1 f2
    subst ev
    obtain ⟨x0, x1, x2, f0, f1, f2⟩ := b5
    (try simp only [Exit.inBlock, Exit.then])
    refine bodyPost_ret (v := .agg #[.int .i64 d'.self, .int .i64 d'.inc, .int .i64 4]) ?_ rfl ⟨rfl, Hid.mk_ ⟨S, ⟨gv, gq, go, gc, A, B, n, c, C, X4⟩, fun k hk => .inl hk, ((Rum.Wr.of_below al.out S).then_ ws (fun i hi => .inr (by rw [hi, HZ.out]; exact Nat.le_refl _))).then_ (Rum.Wr.of_below dr (fun _ => False)) (fun _ h => h.elim)⟩⟩
    rw [results_cell1 rfl]
    go_simp
  | false =>
    have c10 : w1.cell? ⟨g, 10, none⟩ = some (.bool false) := by rw [← hl]; exact X1.out.dcs.cell 10
    have f10 : w1.frozen? ⟨g, 10, none⟩ = false := X1.out.dcs.fr 10
    have ed : d' = dSays { d with left := true } 4 := by rw [hd.out]; unfold dLeave; rw [hl]; rfl
    have HED := Hid.mk_ ed
    clear hd hl ed
    go_upto_region 6 with fail
    have ws := Rum.Wr.set w1 g 10 (.bool true)
    have x2' := X1.out.turnD ws (X1.out.dcs.set 10 (.bool true) { d with left := true } rfl) ⟨X1.out.ok.self, X1.out.ok.inc, X1.out.ok.now, X1.out.ok.seq, X1.out.ok.asked⟩ ⟨rfl, rfl, rfl, rfl, rfl, rfl⟩
    have D2 : Hid (Det (w1.setCell ⟨g, 10, none⟩ (.bool true)) S g { d with left := true }) := Hid.mk_ ⟨gv, gq, go, gc, A, B, n, c, C, x2'⟩
    have R2 : Hid (Rum.Wr w (w1.setCell ⟨g, 10, none⟩ (.bool true)) S) := Hid.mk_ ((Rum.Wr.of_below al.out S).then_ ws (fun i hi => .inl (by rw [hi]; exact X1.out.sg)))
    have BZ := Hid.mk_ (box3w bx.out ws (fun e => gz e.symm))
    have LZ : Hid (w.heap.size ≤ z) := Hid.mk_ (by rw [HZ.out]; exact Nat.le_refl _)
    have hself : Hid (({ d with left := true } : Dt).self = d.self ∧ ({ d with left := true } : Dt).inc = d.inc) := Hid.mk_ ⟨rfl, rfl⟩
    clear c10 f10 X1 al bx ws x2' x0 x1 x2 f0 f1 f2
    generalize w1.setCell ⟨g, 10, none⟩ (.bool true) = w2 at *
    go_wp2_with (go_at_call 40; refine (says w2 S g { d with left := true } 4 D2 d' HED v hv).mono ?_; rintro e w3 ⟨rfl, t3⟩; obtain ⟨S3, h3, hS3, r3⟩ := t3.out; have ev := hv.out; clear hv; subst ev; obtain ⟨y0, y1, y2, g0, g1, g2⟩ := box3w BZ.out r3 (fun e => by have := NZ.out z e; omega))
    have BZ3 := box3w BZ.out r3 (fun e => by have := NZ.out z e; omega)
    have b4 := BZ3.set d.self d.inc 4
    have ws : Rum.Wr w3 (((w3.setCell ⟨z, 0, none⟩ (.int .i64 d.self)).setCell ⟨z, 1, none⟩ (.int .i64 d.inc)).setCell ⟨z, 2, none⟩ (.int .i64 4)) (fun k => k = z) := ((Rum.Wr.set w3 z 0 _).then_ (Rum.Wr.set _ z 1 _) (fun i hi => .inl hi)).then_ (Rum.Wr.set _ z 2 _) (fun i hi => .inl hi)
    generalize ((w3.setCell ⟨z, 0, none⟩ (.int .i64 d.self)).setCell ⟨z, 1, none⟩ (.int .i64 d.inc)).setCell ⟨z, 2, none⟩ (.int .i64 4) = w4 at *
    have h4 := h3.wr ws (fun k hk e => by
      subst e
      rcases hS3 k hk with h1 | h1
      · have := NZ.out k h1; omega
      · have := BZ.out.lt; omega)
    clear y0 y1 y2 g0 g1 g2
    obtain ⟨x0, x1, x2, f0, f1, f2⟩ := b4
    (try simp only [Exit.inBlock, Exit.then])
    refine bodyPost_ret (v := .agg #[.int .i64 d.self, .int .i64 d.inc, .int .i64 4]) ?_ rfl ⟨rfl, Hid.mk_ ⟨S3, h4, fun k hk => (hS3 k hk).elim .inl (fun h => .inr (Nat.le_trans R2.out.size h)), (R2.out.then_ r3 (fun i hi => .inl hi)).then_ ws (fun i hi => .inr (by rw [hi]; exact LZ.out))⟩⟩
    rw [results_cell1 rfl]
    go_simp
end Go.Proofs.YthndjhocmpelcaaGreat.Swi
namespace Go.Proofs.YthndjhocmpelcaaGreat.Swi
open Go.RowKit Kit Hth Tri3
set_option linter.unusedVariables false
theorem node24 (n : Int) (w : World) (q : Bool) (hq : Hid (q = nodeB n)) : Calls Tryz.prog 25 #[.int .i64 n] w fun e w' => e = .returned (.bool q) ∧ w' = w := by
  by_cases h0 : 0 ≤ n
  · by_cases h1 : n < 8
    · go_enter Tryz.func25, Tryz.ntmps25
      go_wp2_with fail
      go_ret
      exact ⟨by rw [hq.out]; simp [nodeB, h0, h1], rfl⟩
    · go_enter Tryz.func25, Tryz.ntmps25
      go_wp2_with fail
      go_ret
      exact ⟨by rw [hq.out]; simp [nodeB, h1], rfl⟩
  · go_enter Tryz.func25, Tryz.ntmps25
    go_wp2_with fail
    go_ret
    exact ⟨by rw [hq.out]; simp [nodeB]; omega, rfl⟩
/-- A detector as it begins, before it has heard of itself. -/
def d0 (self inc : Int) : Dt := ⟨self, inc, 0, 0, -1, false, false, Bel.z8, Bel.z8, [], [], []⟩
def dNew (self inc : Int) : Dt := dHeard (d0 self inc) ⟨self, inc, 1⟩
theorem det0 {w w1 w2 w3 w4 : World} {self inc : Int} {gv gq go gc : Nat} (hs : 0 ≤ self ∧ self ≤ 7) (hi : 0 ≤ inc ∧ inc ≤ 1000000) (v1 : w.heap.size ≤ gv) (v2 : Bel.Vw w1 gv Bel.z8 Bel.z8) (b1 : Below w.heap.size w w1) (q1 : w1.heap.size ≤ gq) (q2 : Rum.Que w2 gq 3 none []) (b2 : Below w1.heap.size w1 w2)
    (o1 : go = w2.heap.size) (o2 : Prb.Odr w3 go self none 0 0 []) (b3 : Below w2.heap.size w2 w3) (c1 : w3.heap.size ≤ gc) (c2 : Wat.Clk w4 gc none []) (b4 : Below w3.heap.size w3 w4) :
    DetX (w4.alloc (.cells (dc (d0 self inc) gv gq go gc) 78 (0, 0))) (fun k => w.heap.size ≤ k ∧ k ≤ w4.heap.size) w4.heap.size (d0 self inc) gv gq go gc none none 0 0 none ∧ Below w.heap.size w (w4.alloc (.cells (dc (d0 self inc) gv gq go gc) 78 (0, 0))) := by
  have al := (Below.refl w4.heap.size w4).alloc (Nat.le_refl _) (.cells (dc (d0 self inc) gv gq go gc) 78 (0, 0))
  have lv := v2.lt
  have lq := q2.lt'
  have lo := o2.lt
  have lc := c2.lt
  have z1 := b1.size; have z2 := b2.size; have z3 := b3.size; have z4 := b4.size
  have n1 : ∀ k, Rum.Its gq none k → k = gq := fun k hk => by
    rcases hk with h | ⟨off, h⟩
    · exact h
    · cases h
  have n2 : ∀ k, Prb.Its go none k → k = go := fun k hk => by
    rcases hk with h | ⟨off, h⟩
    · exact h
    · cases h
  have n3 : ∀ k, Wat.Its gc none k → k = gc := fun k hk => by
    rcases hk with h | ⟨off, h⟩
    · exact h
    · cases h
  have bb : Below w.heap.size w w4 := ((b1.trans (b2.mono z1)).trans (b3.mono (by omega))).trans (b4.mono (by omega))
  refine ⟨⟨⟨hs, hi, by show (0 : Int) ≤ 0 ∧ (0 : Int) ≤ 1000000; omega, by show (0 : Int) ≤ 0 ∧ (0 : Int) ≤ 1000000; omega, by show (-1 : Int) ≤ -1 ∧ (-1 : Int) ≤ 7; omega⟩, heap_alloc_new w4 _, ?_, ?_, ?_, ?_, ?_, ⟨by omega, Nat.le_refl _⟩, ⟨v1, by omega⟩, ?_, ?_, ?_, ?_⟩, bb.alloc bb.size _⟩
  · exact (((v2.below b2 lv).below b3 (by omega)).below b4 (by omega)).below al (by omega)
  · exact ((q2.below b3).below b4).below al
  · exact (o2.below b4).below al
  · exact c2.below al
  · intro k hk; simp; omega
  · intro k hk; rw [n1 k hk]; omega
  · intro k hk; rw [n2 k hk]; omega
  · intro k hk; rw [n3 k hk]; omega
  · refine ⟨fun k => if k = w4.heap.size then 0 else if k = gv then 1 else if k = gq then 2 else if k = go then 3 else 4, by simp, ?_, ?_, ?_, ?_⟩
    · simp only; rw [if_neg (by omega), if_pos trivial]
    · intro k hk; rw [n1 k hk]; simp only; rw [if_neg (by omega), if_neg (by omega), if_pos trivial]
    · intro k hk; rw [n2 k hk]; simp only; rw [if_neg (by omega), if_neg (by omega), if_neg (by omega), if_pos trivial]
    · intro k hk; rw [n3 k hk]; simp only; rw [if_neg (by omega), if_neg (by omega), if_neg (by omega), if_neg (by omega)]
set_option maxRecDepth 100000 in
set_option maxHeartbeats 4000000 in
theorem newD (w : World) (self inc : Int) (hs : Hid (0 ≤ self ∧ self ≤ 7)) (hi : Hid (0 ≤ inc ∧ inc ≤ 1000000)) :
    Calls Tryz.prog 6 #[.int .i64 self, .int .i64 inc] w fun e w' => ∃ g S, e = .returned (.pointer (some ⟨g, 0, none⟩)) ∧ Hid (Det w' S g (dNew self inc)) ∧ Hid (∀ k, S k → w.heap.size ≤ k) ∧ Below w.heap.size w w' := by
  have HN : Hid (true = nodeB self) := Hid.mk_ (by have := hs.out; unfold nodeB; simp; omega)
  have i0 : ¬ inc < 0 := by have := hi.out; omega
  have i1 : ¬ 1000000 < inc := by have := hi.out; omega
  have ho : Hid ((3 : Int) = Rum.ofn 3) := Hid.mk_ rfl
  go_enter Tryz.func6, Tryz.ntmps6
  go_upto_region 4 with (first
    | (go_at_call 25; refine (node24 self _ true HN).mono ?_; rintro e w0 ⟨rfl, e0⟩; have e1 := e0.symm; subst e1)
    | (go_at_call 26; refine (Bel.new0 _).mono ?_; rintro e w1 ⟨gv, rfl, v1, v2, b1⟩)
    | (go_at_call 27; refine (Rum.new0 _ 3 3 ho).mono ?_; rintro e w2 ⟨gq, rfl, q2, q1, b2⟩)
    | (go_at_call 28; refine (Prb.new self _).mono ?_; rintro e w3 ⟨go, rfl, o1, o2, b3⟩)
    | (go_at_call 29; refine (Wat.new0 _).mono ?_; rintro e w4 ⟨gc, rfl, c2, c1, b4⟩))
  obtain ⟨x5, B5⟩ := det0 hs.out hi.out v1 v2 b1 q1.out q2.out b2 o1.out o2.out b3 c1.out c2.out b4
  have X5 : Hid (DetX (w4.alloc (.cells #[.int .i64 self, .int .i64 inc, .pointer (some ⟨gv, 0, none⟩), .pointer (some ⟨gq, 0, none⟩), .pointer (some ⟨go, 0, none⟩), .pointer (some ⟨gc, 0, none⟩), .int .i64 0, .int .i64 0, .int .i64 (-1), .bool false, .bool false] 78)) (fun k => w.heap.size ≤ k ∧ k ≤ w4.heap.size) w4.heap.size (d0 self inc) gv gq go gc none none 0 0 none) := Hid.mk_ x5
  have B5' : Hid (Below w.heap.size w (w4.alloc (.cells #[.int .i64 self, .int .i64 inc, .pointer (some ⟨gv, 0, none⟩), .pointer (some ⟨gq, 0, none⟩), .pointer (some ⟨go, 0, none⟩), .pointer (some ⟨gc, 0, none⟩), .int .i64 0, .int .i64 0, .int .i64 (-1), .bool false, .bool false] 78))) := Hid.mk_ B5
  clear x5 B5 v1 v2 b1 q1 q2 b2 o1 o2 b3 c1 c2 b4 i0 i1
  obtain ⟨g, hg⟩ : ∃ g, g = w4.heap.size := ⟨_, rfl⟩
  rw [← hg] at X5 ⊢
  clear hg
  generalize w4.alloc (.cells #[.int .i64 self, .int .i64 inc, .pointer (some ⟨gv, 0, none⟩), .pointer (some ⟨gq, 0, none⟩), .pointer (some ⟨go, 0, none⟩), .pointer (some ⟨gc, 0, none⟩), .int .i64 0, .int .i64 0, .int .i64 (-1), .bool false, .bool false] 78) = w5 at *
  have c2 : w5.cell? ⟨g, 2, none⟩ = some (.pointer (some ⟨gv, 0, none⟩)) := X5.out.dcs.cell 2
  go_wp2_with (go_at_call 30; refine (Bel.hear0 Bel.z8 Bel.z8 gv self inc 1 w5 X5.out.vw).mono ?_; rintro e w6 ⟨rfl, v6, g6⟩)
  go_ret
  have x6 := X5.out.heard ⟨self, inc, 1⟩ v6 g6
  refine ⟨g, _, rfl, Hid.mk_ ⟨gv, gq, go, gc, none, none, 0, 0, none, x6⟩, Hid.mk_ (fun k hk => hk.1), ?_⟩
  exact B5'.out.trans ((Rum.Wr.of_gb g6).below B5'.out.size (fun k hk => by rw [hk]; exact X5.out.sv.1))
theorem newBad (w : World) (self inc : Int) (hb : ¬ (0 ≤ self ∧ self ≤ 7 ∧ 0 ≤ inc ∧ inc ≤ 1000000)) :
    Calls Tryz.prog 6 #[.int .i64 self, .int .i64 inc] w fun e w' => e = .returned (.pointer none) ∧ w' = w := by
  cases hn : nodeB self with
  | false =>
    have HN := Hid.mk_ hn.symm
    clear hn hb
    go_enter Tryz.func6, Tryz.ntmps6
    go_wp2_with (go_at_call 25; refine (node24 self _ false HN).mono ?_; rintro e w0 ⟨rfl, rfl⟩)
    go_ret
    exact ⟨rfl, rfl⟩
  | true =>
    have HN := Hid.mk_ hn.symm
    have hs : 0 ≤ self ∧ self < 8 := by unfold nodeB at hn; simpa using hn
    by_cases i0 : inc < 0
    · clear hn hb hs
      go_enter Tryz.func6, Tryz.ntmps6
      go_wp2_with (go_at_call 25; refine (node24 self _ true HN).mono ?_; rintro e w0 ⟨rfl, rfl⟩)
      go_ret
      exact ⟨rfl, rfl⟩
    · have i1 : 1000000 < inc := by omega
      clear hn hb hs
      go_enter Tryz.func6, Tryz.ntmps6
      go_wp2_with (go_at_call 25; refine (node24 self _ true HN).mono ?_; rintro e w0 ⟨rfl, rfl⟩)
      go_ret
      exact ⟨rfl, rfl⟩
end Go.Proofs.YthndjhocmpelcaaGreat.Swi
namespace Go.Proofs.YthndjhocmpelcaaGreat.Swi
open Go.RowKit Kit Hth Tri3
set_option linter.unusedVariables false
def hl (self asked : Int) (ps : List Int) : Nat → List Int
  | 0 => []
  | k + 1 => hl self asked ps k ++ if ¬ (k : Int) = self ∧ ¬ (k : Int) = asked ∧ (k : Int) ∈ ps then [(k : Int)] else []
theorem hl_len (self asked : Int) (ps : List Int) : ∀ k, (hl self asked ps k).length ≤ k
  | 0 => Nat.le_refl _
  | k + 1 => by
    have := hl_len self asked ps k
    rw [hl, List.length_append]
    split <;> simp <;> omega
theorem hl_yes {self asked : Int} {ps : List Int} {k : Nat} (h : ¬ (k : Int) = self ∧ ¬ (k : Int) = asked ∧ (k : Int) ∈ ps) : hl self asked ps (k + 1) = hl self asked ps k ++ [(k : Int)] := by rw [hl, if_pos h]
theorem hl_no {self asked : Int} {ps : List Int} {k : Nat} (h : ¬ (¬ (k : Int) = self ∧ ¬ (k : Int) = asked ∧ (k : Int) ∈ ps)) : hl self asked ps (k + 1) = hl self asked ps k := by rw [hl, if_neg h, List.append_nil]
set_option maxHeartbeats 4000000 in
theorem helpers (w : World) (S : Nat → Prop) (g : Nat) (d : Dt) (hD : Hid (Det w S g d)) (A : Option Addr) (n c : Nat) (zs : List Int) (hr : Hid (Prb.Row w A zs)) (hn : Hid (n = zs.length)) (hm : n ≤ 9223372036854775807) :
    Calls Tryz.prog 49 #[.pointer (some ⟨g, 0, none⟩), .slice A n c] w (Prb.Made w (hl d.self d.asked zs 8)) := by
  obtain ⟨gv, gq, go, gc, A1, B1, n1, c1, C1, X⟩ := hD.out
  have hc0 : Hid (w.cell? ⟨g, 0, none⟩ = some (.int .i64 d.self)) := Hid.mk_ (X.dcs.cell 0)
  have hc8 : Hid (w.cell? ⟨g, 8, none⟩ = some (.int .i64 d.asked)) := Hid.mk_ (X.dcs.cell 8)
  clear X
  generalize d.self = self at *
  generalize d.asked = asked at *
  go_enter Tryz.func49, Tryz.ntmps49
  go_wp2_with fail
  go_loopw [5, 7] (fun v i wr => ∃ k : Nat, k ≤ 8 ∧ i = .int .i64 (k : Int) ∧ Prb.Own wr w.heap.size v (hl self asked zs k) ∧ Below w.heap.size w wr) (fun _ i _ => 8 - (intOf i).toNat)
  case atStart => exact ⟨0, by omega, rfl, Prb.Own.nil _ _, Below.refl _ _⟩
  case round =>
    obtain ⟨k, hk, rfl, hown, hbl⟩ := hrel
    obtain ⟨A0, c0, rfl, _⟩ := hown.form
    have hbk := hl_len self asked zs k
    by_cases hlt : k < 8
    · have h0 : wr.cell? ⟨g, 0, none⟩ = some (.int .i64 self) := (hbl.cell (p := ⟨g, 0, none⟩) (World.block_lt_of_cell? w _ hc0.out)).trans hc0.out
      have h8 : wr.cell? ⟨g, 8, none⟩ = some (.int .i64 asked) := (hbl.cell (p := ⟨g, 8, none⟩) (World.block_lt_of_cell? w _ hc8.out)).trans hc8.out
      by_cases he : (k : Int) = self
      · have E := hl_no (ps := zs) (k := k) (self := self) (asked := asked) (fun h => h.1 he)
        go_wp2_with fail
        go_roundw
        case rel => exact ⟨k + 1, by omega, by go_num, by rw [E]; exact hown, hbl⟩
        case measure => simp [intOf]; omega
      · by_cases ha : (k : Int) = asked
        · have E := hl_no (ps := zs) (k := k) (self := self) (asked := asked) (fun h => h.2.1 ha)
          have b1 : ((k : Int) != self) = true := by simp [he]
          have b2 : ((k : Int) != asked) = false := by simp [ha]
          go_wp2_with fail
          go_roundw
          case rel => exact ⟨k + 1, by omega, by go_num, by rw [E]; exact hown, hbl⟩
          case measure => simp [intOf]; omega
        · have b1 : ((k : Int) != self) = true := by simp [he]
          have b2 : ((k : Int) != asked) = true := by simp [ha]
          obtain ⟨q, hq⟩ : ∃ q, q = decide ((k : Int) ∈ zs) := ⟨_, rfl⟩
          have hq' := Hid.mk_ hq
          clear hq
          have hown' := Hid.mk_ hown
          clear hown
          cases q with
          | true =>
            go_wp2_with fail
            refine Calls.cells (Prb.contains A n c zs (k : Int) _ (hr.out.below hbl) hn hm true hq') ?_
            intro w2 hb2 hc2
            have B2 := hbl.trans (hb2.mono hbl.size)
            have hown2 := hown'.out.keep hb2
            go_wp2_with (at_builtin; refine Prb.wpList_app _ rfl _ _ rfl w.heap.size _ (hl self asked zs k) rfl (hown2.keep ((Below.refl _ _).alloc (Nat.le_refl _) _)) _ [(k : Int)] 1 _ rfl rfl (Prb.Row.one _ _ _) (by simp; omega) (by have := B2.size; simp; omega) ?_; intro v3 w3 hown3 hb3)
            obtain ⟨A3, c3, rfl, _⟩ := hown3.form
            have E := hl_yes (ps := zs) (k := k) (self := self) (asked := asked) ⟨he, ha, by simpa using hq'.out⟩
            go_roundw
            case rel => exact ⟨k + 1, by omega, by go_num, by rw [E]; exact hown3, (B2.alloc B2.size _).trans hb3⟩
            case measure => simp [intOf]; omega
          | false =>
            go_wp2_with fail
            refine Calls.cells (Prb.contains A n c zs (k : Int) _ (hr.out.below hbl) hn hm false hq') ?_
            intro w2 hb2 hc2
            have B2 := hbl.trans (hb2.mono hbl.size)
            have hown2 := hown'.out.keep hb2
            have E := hl_no (ps := zs) (k := k) (self := self) (asked := asked) (fun h => by simpa [h.2.2] using hq'.out)
            go_wp2_with fail
            go_roundw
            case rel => exact ⟨k + 1, by omega, by go_num, by rw [E]; exact hown2, B2⟩
            case measure => simp [intOf]; omega
    · obtain rfl : k = 8 := by omega
      go_wp2_with fail
      go_ret
      exact ⟨_, _, rfl, hown, hbl⟩
end Go.Proofs.YthndjhocmpelcaaGreat.Swi
namespace Go.Proofs.YthndjhocmpelcaaGreat.Swi
open Go.RowKit Kit Hth Tri3
set_option linter.unusedVariables false
theorem Prb_blk {w : World} {g : Nat} {me : Int} {A : Option Addr} {n c : Nat} {zs : List Int} (h : Prb.Odr w g me A n c zs) {b off : Nat} (e : A = some ⟨b, off, none⟩) : b < w.heap.size := by
  rcases h.row with ⟨h1, _⟩ | ⟨b', o', h1, _, h2, _⟩
  · rw [h1] at e; cases e
  · rw [h1] at e
    injection e with e
    injection e with e1
    omega
theorem DetX.turnO {w w' : World} {S : Nat → Prop} {g gv gq go gc : Nat} {d : Dt} {A B C : Option Addr} {n c : Nat} {zs : List Int} (h : DetX w S g d gv gq go gc A B n c C)
    (t : ∃ A' n' c', Hid (Prb.Odr w' go d.self A' n' c' zs) ∧ (∀ b off, A' = some ⟨b, off, none⟩ → (∃ off', B = some ⟨b, off', none⟩) ∨ w.heap.size ≤ b) ∧ Prb.Wr w w' (Prb.Its go B)) :
    ∃ B' n' c' S', DetX w' S' g { d with zs := zs } gv gq go gc A B' n' c' C ∧ (∀ k, S' k → S k ∨ w.heap.size ≤ k) ∧ Rum.Wr w w' S := by
  obtain ⟨B', n', c', k', f, hw0⟩ := t
  have hw := wrP hw0
  obtain ⟨col, c0, c1, c2, c3, c4⟩ := h.sep
  have hold : ∀ k, S k → k < w.heap.size := h.blk
  have f' : ∀ k, Prb.Its go B' k → Prb.Its go B k ∨ w.heap.size ≤ k := fun k hk => by
    rcases hk with h1 | ⟨off, h1⟩
    · exact .inl (.inl h1)
    · rcases f k off h1 with ⟨o2, h2⟩ | h2
      · exact .inl (.inr ⟨o2, h2⟩)
      · exact .inr h2
  refine ⟨B', n', c', fun k => S k ∨ Prb.Its go B' k, ⟨⟨h.ok.self, h.ok.inc, h.ok.now, h.ok.seq, h.ok.asked⟩, ?_, ?_, ?_, k'.out, ?_, ?_, .inl h.sg, .inl h.sv, fun k hk => .inl (h.sq k hk), fun k hk => .inr hk, fun k hk => .inl (h.sc k hk), ?_⟩, ?_, ?_⟩
  · exact h.dcs.wr hw (fun hk => by have := c3 g hk; omega)
  · exact (hw.block gv h.vw.lt (fun hk => by have := c3 gv hk; omega)).trans h.vw
  · exact h.qu.wr hw (fun k hk hk2 => by have := c3 k hk2; have := c2 k hk; omega)
  · exact h.ck.wr (wrW' hw) (fun k hk hk2 => by have := c3 k hk2; have := c4 k hk; omega)
  · rintro k (hk | hk)
    · exact Nat.lt_of_lt_of_le (hold k hk) hw.size
    · rcases hk with h1 | ⟨off, h1⟩
      · rw [h1]; exact k'.out.lt
      · exact Prb_blk k'.out h1
  · refine ⟨fun k => if w.heap.size ≤ k then 3 else col k, ?_, ?_, ?_, ?_, ?_⟩
    · have := hold g h.sg; simp only; rw [if_neg (by omega)]; exact c0
    · have := hold gv h.sv; simp only; rw [if_neg (by omega)]; exact c1
    · intro k hk; have := hold k (h.sq k hk); simp only; rw [if_neg (by omega)]; exact c2 k hk
    · intro k hk
      rcases f' k hk with h1 | h1
      · have := hold k (h.so k h1); simp only; rw [if_neg (by omega)]; exact c3 k h1
      · simp only; rw [if_pos h1]
    · intro k hk; have := hold k (h.sc k hk); simp only; rw [if_neg (by omega)]; exact c4 k hk
  · rintro k (hk | hk)
    · exact .inl hk
    · rcases f' k hk with h1 | h1
      · exact .inl (h.so k h1)
      · exact .inr h1
  · exact hw.mono h.so
end Go.Proofs.YthndjhocmpelcaaGreat.Swi
namespace Go.Proofs.YthndjhocmpelcaaGreat.Swi
open Go.RowKit Kit Hth Tri3
set_option linter.unusedVariables false
/-- What is believed is in bounds. -/
def Vok (d : Dt) : Prop := ∀ k : Nat, k < 8 → 0 ≤ d.p k ∧ d.p k ≤ 1000000 ∧ 0 ≤ d.q k ∧ d.q k ≤ 4
theorem Vok.of {d d' : Dt} (h : Vok d) (hp : d'.p = d.p) (hq : d'.q = d.q) : Vok d' := fun k hk => by rw [hp, hq]; exact h k hk
theorem Vok.heard {d : Dt} (h : Vok d) (c : Cl) : Vok (dHeard d c) := fun k hk => by
  have h0 := h k hk
  unfold dHeard Bel.upd
  simp only
  by_cases e : Bel.hearB d.p d.q c.n c.i c.h = true ∧ c.n = (k : Int)
  · rw [if_pos e, if_pos e]
    have hm : mayC c.n c.i c.h = true := by
      have := e.1
      unfold Bel.hearB at this
      rw [Bool.and_eq_true] at this
      exact this.1
    unfold mayC at hm
    simp at hm
    omega
  · rw [if_neg e, if_neg e]
    exact h0
theorem Vok.says {d : Dt} (h : Vok d) (x : Int) : Vok (dSays d x) := (h.heard ⟨d.self, d.inc, x⟩).of rfl rfl
theorem Vok.ref {d : Dt} (h : Vok d) (i x : Int) : Vok (dRef d i x) := by
  unfold dRef
  split
  · split
    · exact h.of rfl rfl
    · exact Vok.says (h.of rfl rfl : Vok { d with inc := i + 1 }) 1
  · exact h
theorem Vok.hears {d : Dt} (h : Vok d) (c : Cl) : Vok (dHears d c) := by
  unfold dHears
  split
  · exact h.ref _ _
  · split
    · exact (h.heard c).of rfl rfl
    · exact h
theorem Vok.new (self inc : Int) : Vok (dNew self inc) := Vok.heard (d := d0 self inc) (fun k hk => by show (0 : Int) ≤ 0 ∧ (0 : Int) ≤ 1000000 ∧ (0 : Int) ≤ 0 ∧ (0 : Int) ≤ 4; omega) _
theorem cOf_may {d : Dt} (h : Vok d) (f : Int) (x : Int) (hx : 1 ≤ x ∧ x ≤ 4) : mayC (cOf d f).n (cOf d f).i x = true := by
  unfold cOf Bel.onN Bel.on
  by_cases e : 0 ≤ f ∧ f < 8
  · simp only [if_pos e]
    have := h f.toNat (by omega)
    unfold mayC
    simp
    omega
  · simp only [if_neg e]
    unfold mayC
    simp
    omega
/-- The claims of a message, one behind the other: no more than four that may be. -/
def meetL : Dt → Nat → List Cl → Dt × Nat
  | d, n, [] => (d, n)
  | d, n, c :: l => if mayC c.n c.i c.h = true ∧ n < 4 then meetL (dHears d c) (n + 1) l else meetL d n l
theorem meetL_snoc : ∀ (l : List Cl) (d : Dt) (n : Nat) (c : Cl), meetL d n (l ++ [c]) = if mayC c.n c.i c.h = true ∧ (meetL d n l).2 < 4 then (dHears (meetL d n l).1 c, (meetL d n l).2 + 1) else meetL d n l
  | [], d, n, c => rfl
  | a :: l, d, n, c => by
    rw [List.cons_append, meetL, meetL]
    split
    · exact meetL_snoc l _ _ c
    · exact meetL_snoc l _ _ c
theorem Vok.meetL : ∀ (l : List Cl) {d : Dt} (h : Vok d) (n : Nat), Vok (meetL d n l).1
  | [], d, h, n => h
  | a :: l, d, h, n => by
    rw [Swi.meetL]
    split
    · exact Vok.meetL l (h.hears a) _
    · exact Vok.meetL l h _
/-- What a message from f turns a detector to. -/
def dMeets (d : Dt) (f : Int) (l : List Cl) : Dt :=
  let e := (meetL d 0 l).1
  if Bel.on e.q f = 4 then e else dHears e ⟨(cOf e f).n, (cOf e f).i, 1⟩
theorem Vok.meets {d : Dt} (h : Vok d) (f : Int) (l : List Cl) : Vok (dMeets d f l) := by
  unfold dMeets
  simp only
  split
  · exact Vok.meetL l h 0
  · exact (Vok.meetL l h 0).hears _
end Go.Proofs.YthndjhocmpelcaaGreat.Swi
namespace Go.Proofs.YthndjhocmpelcaaGreat.Swi
open Go.RowKit Kit Hth Tri3
set_option linter.unusedVariables false
/-- The cells of any message. -/
structure MsgC (cs : Array Value) (k f t s fo ab : Int) (cl : Value) : Prop where
  size : cs.size = 62
  one : cs.all (·.oneCell') = true
  c0 : cs[0]? = some (.int .i64 k)
  c1 : cs[1]? = some (.int .i64 f)
  c2 : cs[2]? = some (.int .i64 t)
  c3 : cs[3]? = some (.int .i64 s)
  c4 : cs[4]? = some (.int .i64 fo)
  c5 : cs[5]? = some (.int .i64 ab)
  c61 : cs[61]? = some cl
theorem MsgC.of_msg (k f t s fo ab : Int) (P : Option Addr) (n c : Nat) : MsgC (msg k f t s fo ab (.slice P n c)) k f t s fo ab (.slice P n c) :=
  ⟨rfl, msg_one rfl, rfl, rfl, rfl, rfl, rfl, rfl, rfl⟩
set_option maxRecDepth 100000 in
set_option maxHeartbeats 8000000 in
theorem meets (w : World) (S : Nat → Prop) (g : Nat) (d : Dt) (cs : Array Value) (k f t s fo ab : Int) (P : Option Addr) (n c : Nat) (ls : List Cl) (hD : Hid (Det w S g d)) (hv : Hid (Vok d)) (hc : Hid (MsgC cs k f t s fo ab (.slice P n c))) (hl : Hid (ClAt w P ls)) (hS : Hid (∀ b off, P = some ⟨b, off, none⟩ → 0 < n → ¬ S b)) (hn : Hid (n = ls.length)) (hnc : n ≤ c) (hcc : c ≤ 9223372036854775807) (d' : Dt) (hd : Hid (d' = dMeets d f ls)) :
    Calls Tryz.prog 42 #[.pointer (some ⟨g, 0, none⟩), .agg cs] w fun e w' => e = .returned (.tuple #[]) ∧ Hid (DTurn w w' S g d') := by
  have al := Hid.mk_ ((Below.refl w.heap.size w).alloc (Nat.le_refl _) (.cells cs 46))
  have NS := Hid.mk_ hD.out.blk
  have M0 : Hid ((w.alloc (.cells cs 46)).heap[w.heap.size]? = some (.cells cs 46 (0, 0))) := Hid.mk_ (heap_alloc_new w _)
  have D1 := Hid.mk_ (hD.out.below al.out)
  have L1 := Hid.mk_ (hl.out.keep al.out)
  go_enter Tryz.func42, Tryz.ntmps42
  go_upto_region 2 with fail
  generalize w.alloc (.cells cs 46) = w1 at *
  obtain ⟨z, hz⟩ : ∃ z, z = w.heap.size := ⟨_, rfl⟩
  have HZ := Hid.mk_ hz
  have NZ : Hid (∀ i, S i → i < z) := Hid.mk_ (fun i hi => by have := NS.out i hi; omega)
  rw [← hz] at M0 ⊢
  clear hz NS
  have m61 : w1.cell? ⟨z, 61, none⟩ = some (.slice P n c) := by rw [cell_of_row w1 z 61 cs 46 (0, 0) M0.out]; exact hc.out.c61
  go_wp2_with fail
  go_loopw [4, 11] (fun q i wr => ∃ (j m : Nat) (S' : Nat → Prop), q = .int .i64 (m : Int) ∧ i = .int .i64 (j : Int) ∧ j ≤ n ∧ m ≤ 4 ∧ Hid ((meetL d 0 (ls.take j)).2 = m) ∧ Hid (Det wr S' g (meetL d 0 (ls.take j)).1) ∧ Hid (∀ i, S' i → S i ∨ w1.heap.size ≤ i) ∧ Hid (Rum.Wr w1 wr S)) (fun _ i _ => n - (intOf i).toNat)
  case atStart => exact ⟨0, 0, S, rfl, rfl, by omega, by omega, Hid.mk_ rfl, D1, Hid.mk_ (fun i hi => .inl hi), Hid.mk_ (Rum.Wr.of_below (Below.refl _ _) _)⟩
  case round =>
    obtain ⟨j, m, S', rfl, rfl, hj, hm4, HM, D, HS, R⟩ := hrel
    by_cases hlt : j < n
    · obtain ⟨x, hx⟩ : ∃ x, ls[j]? = some x := ⟨_, List.getElem?_eq_getElem (by have := hn.out; omega)⟩
      obtain ⟨b, off, rfl, bl, y0, y1, y2⟩ := L1.out j x hx
      have nb : ¬ S b := hS.out b off rfl (by omega)
      replace y0 := R.out.cell y0 nb
      replace y1 := R.out.cell y1 nb
      replace y2 := R.out.cell y2 nb
      have HX : Hid (ls.take (j + 1) = ls.take j ++ [x]) := Hid.mk_ (Tri3.take_snoc hx)
      clear hx bl nb
      have l1 : (j : Int) < (n : Int) := by omega
      have l0 : (0 : Int) ≤ (j : Int) := by omega
      go_upto_region 5 with fail
      have bx := Hid.mk_ (Rum.Box3.made wr x.n x.i x.h)
      have ax := (Below.refl wr.heap.size wr).alloc (Nat.le_refl _) (.cells #[.int .i64 x.n, .int .i64 x.i, .int .i64 x.h] 30)
      have D2 := Hid.mk_ (D.out.below ax)
      have R2 := Hid.mk_ (R.out.then_ (Rum.Wr.of_below ax (fun _ => False)) (fun _ h => h.elim))
      clear y0 y1 y2 D R ax
      generalize wr.heap.size = q at *
      generalize wr.alloc (.cells #[.int .i64 x.n, .int .i64 x.i, .int .i64 x.h] 30) = w2 at *
      obtain ⟨x0, x1, x2, _, _, _⟩ := bx.out
      cases hmay : mayC x.n x.i x.h with
      | false =>
        have HY := Hid.mk_ hmay.symm
        have E : Hid (meetL d 0 (ls.take (j + 1)) = meetL d 0 (ls.take j)) := Hid.mk_ (by rw [HX.out, meetL_snoc, if_neg (by rw [hmay]; simp)])
        clear hmay
        go_wp2_with (go_at_call 35; refine (Hth.may1 _ _ _ _ false HY).mono ?_; rintro e w3 ⟨rfl, b3⟩)
        go_roundw
        case rel => exact ⟨j + 1, m, S', rfl, by go_num, by omega, hm4, Hid.mk_ (by rw [E.out]; exact HM.out), Hid.mk_ (by rw [E.out]; exact D2.out.below b3), HS, Hid.mk_ (R2.out.then_ (Rum.Wr.of_below b3 (fun _ => False)) (fun _ h => h.elim))⟩
        case measure => simp [intOf]; omega
      | true =>
        have HY := Hid.mk_ hmay.symm
        by_cases h4 : m < 4
        · have h4i : (m : Int) < 4 := by omega
          have E : Hid (meetL d 0 (ls.take (j + 1)) = (dHears (meetL d 0 (ls.take j)).1 x, m + 1)) := Hid.mk_ (by rw [HX.out, meetL_snoc, HM.out, if_pos ⟨hmay, h4⟩])
          clear hmay
          go_wp2_with (first
            | (go_at_call 35; refine (Hth.may1 _ _ _ _ true HY).mono ?_; rintro e w3 ⟨rfl, b3⟩; have z0 := keepC b3 x0; have z1 := keepC b3 x1; have z2 := keepC b3 x2)
            | (go_at_call 36; refine (hears w3 S' g (meetL d 0 (ls.take j)).1 x (Hid.mk_ (D2.out.below b3)) HY _ (Hid.mk_ rfl) _ (Hid.mk_ rfl)).mono ?_; rintro e w4 ⟨rfl, t4⟩))
          obtain ⟨S4, h4d, k4, r4⟩ := t4.out
          go_roundw
          case rel => exact ⟨j + 1, m + 1, S4, by go_num, by go_num, by omega, by omega, Hid.mk_ (by rw [E.out]), Hid.mk_ (by rw [E.out]; exact h4d), Hid.mk_ (fun i hi => (k4 i hi).elim (HS.out i) (fun h => .inr (by have := R2.out.size; have := b3.size; omega))), Hid.mk_ ((R2.out.then_ (Rum.Wr.of_below b3 (fun _ => False)) (fun _ h => h.elim)).then_ r4 HS.out)⟩
          case measure => simp [intOf]; omega
        · have h4i : ¬ (m : Int) < 4 := by omega
          have E : Hid (meetL d 0 (ls.take (j + 1)) = meetL d 0 (ls.take j)) := Hid.mk_ (by rw [HX.out, meetL_snoc, HM.out, if_neg (by omega)])
          clear hmay
          go_wp2_with (go_at_call 35; refine (Hth.may1 _ _ _ _ true HY).mono ?_; rintro e w3 ⟨rfl, b3⟩)
          go_roundw
          case rel => exact ⟨j + 1, m, S', rfl, by go_num, by omega, hm4, Hid.mk_ (by rw [E.out]; exact HM.out), Hid.mk_ (by rw [E.out]; exact D2.out.below b3), HS, Hid.mk_ (R2.out.then_ (Rum.Wr.of_below b3 (fun _ => False)) (fun _ h => h.elim))⟩
          case measure => simp [intOf]; omega
    · obtain rfl : j = n := by omega
      have etk : ls.take j = ls := List.take_of_length_le (by have := hn.out; omega)
      rw [etk] at D HM
      obtain ⟨e, he⟩ : ∃ e, e = (meetL d 0 ls).1 := ⟨_, rfl⟩
      have HE := Hid.mk_ he
      rw [← he] at D
      have VE : Hid (Vok e) := Hid.mk_ (by rw [he]; exact Vok.meetL ls hv.out 0)
      have HD : Hid (d' = if Bel.on e.q f = 4 then e else dHears e ⟨(cOf e f).n, (cOf e f).i, 1⟩) := Hid.mk_ (by rw [hd.out, he]; rfl)
      clear he hd HM hlt
      obtain ⟨gv, gq, go, gc, A, B, n1, cc, C, X⟩ := D.out
      have zS : ¬ S z := fun h => by have := NZ.out z h; omega
      have m1 : wr.cell? ⟨z, 1, none⟩ = some (.int .i64 f) := R.out.cell (by rw [cell_of_row w1 z 1 cs 46 (0, 0) M0.out]; exact hc.out.c1) zS
      have c2 : wr.cell? ⟨g, 2, none⟩ = some (.pointer (some ⟨gv, 0, none⟩)) := X.dcs.cell 2
      have XH := Hid.mk_ X
      have gl := Hid.mk_ X.dcs.lt
      have zl := Hid.mk_ (World.block_lt_of_cell? wr _ m1)
      clear X m61
      go_upto_region 9 with fail
      go_cut [7] from 27 to 33 (fun s7 wx => ∃ q5, s7 = .pointer (some ⟨q5, 0, none⟩) ∧ Hid (Rum.Box3 wx q5 (cOf e f).n (cOf e f).i (cOf e f).h) ∧ Hid (Below wr.heap.size wr wx) ∧ Hid (wr.heap.size ≤ q5))
      case first =>
        have n1 := World.new_ne wr _ c2
        have n2 := World.new_ne wr _ m1
        have ax := (Below.refl wr.heap.size wr).alloc (Nat.le_refl _) (.cells #[.int .i64 0, .int .i64 0, .int .i64 0] 30)
        have BX0 := Rum.Box3.made wr 0 0 0
        have BX := Hid.mk_ (box3k BX0 (Below.refl _ _).drew)
        have AX := Hid.mk_ ax.drew
        have k2 := Hid.mk_ (keepC ax.drew c2)
        have k3 := Hid.mk_ (keepC ax.drew m1)
        clear ax BX0
        go_region_held3 (fun w' => w'.cell? ⟨g, 2, none⟩ = some (.pointer (some ⟨gv, 0, none⟩)) ∧ w'.cell? ⟨z, 1, none⟩ = some (.int .i64 f)) (first | exact ⟨by assumption, by assumption⟩ | go_keep) (first
          | (go_at_call 50; refine (of1 (w := wr.drew) (by exact XH.out.below (Below.refl _ _).drew) f).mono ?_; rintro e0 w5 ⟨rfl, b5⟩; have s2 := keepC b5 (by exact c2); have s3 := keepC b5 (by exact m1); have n3 := World.new_ne w5 _ s2; have n4 := World.new_ne w5 _ s3)
          | (go_at_call 50; refine (of1 (w := (wr.alloc (.cells #[.int .i64 0, .int .i64 0, .int .i64 0] 30)).drew) (by exact XH.out.below AX.out) f).mono ?_; rintro e0 w5 ⟨rfl, b5⟩; have s2 := keepC b5 k2.out; have s3 := keepC b5 k3.out; have b0 := (box3k BX.out b5).c0; have b1 := (box3k BX.out b5).c1; have b2 := (box3k BX.out b5).c2; have g0 := (box3k BX.out b5).f0; have g1 := (box3k BX.out b5).f1; have g2 := (box3k BX.out b5).f2; have n5 : g ≠ wr.heap.size := Nat.ne_of_lt gl.out; have n6 : z ≠ wr.heap.size := Nat.ne_of_lt zl.out)
          | fail)
        · go_wp2_with fail
          go_meet
          have z5 := ((Below.refl wr.heap.size wr).drew.trans b5)
          exact ⟨w5.heap.size, rfl, Hid.mk_ (Rum.Box3.made w5 _ _ _), Hid.mk_ (z5.alloc z5.size _), Hid.mk_ z5.size⟩
        · go_wp2_with fail
          go_meet
          have z5 := AX.out.trans (b5.mono AX.out.size)
          exact ⟨wr.heap.size, rfl, Hid.mk_ ((box3k BX.out b5).set _ _ _), Hid.mk_ (Rum.below_set (Rum.below_set (Rum.below_set z5 (Nat.le_refl _)) (Nat.le_refl _)) (Nat.le_refl _)), Hid.mk_ (Nat.le_refl _)⟩
      case rest =>
        obtain ⟨q5, rfl, BQ, BC, HQ⟩ := hcut
        have D5 := Hid.mk_ (D.out.below BC.out)
        have R5 : Hid (Rum.Wr w wc S) := Hid.mk_ (((Rum.Wr.of_below al.out S).then_ R.out (fun i hi => .inl hi)).then_ (Rum.Wr.of_below BC.out (fun _ => False)) (fun _ h => h.elim))
        have HS' : Hid (∀ i, S' i → S i ∨ w.heap.size ≤ i) := Hid.mk_ (fun i hi => (HS.out i hi).elim .inl (fun h => .inr (Nat.le_trans al.out.size h)))
        have NQ : Hid (∀ i, S' i → ¬ i = q5) := Hid.mk_ (fun i hi e1 => by have h1 := D.out.blk i hi; have h2 := HQ.out; rw [e1] at h1; exact Nat.lt_irrefl _ (Nat.lt_of_lt_of_le h1 h2))
        have MY : Hid (true = mayC (cOf e f).n (cOf e f).i 1) := Hid.mk_ (cOf_may VE.out f 1 ⟨Int.le_refl 1, by decide⟩).symm
        have QW : Hid (w.heap.size ≤ q5) := Hid.mk_ (Nat.le_trans (Nat.le_trans al.out.size R.out.size) HQ.out)
        clear c2 m1 XH gl zl D R BC HQ al HS
        obtain ⟨x0, x1, x2, f0, f1, f2⟩ := BQ.out
        by_cases h4 : Bel.on e.q f = 4
        · have hb : ((cOf e f).h != 4) = false := by show (Bel.on e.q f != 4) = false; simp [h4]
          have ed : d' = e := by rw [HD.out, if_pos h4]
          subst ed
          clear h4
          go_wp2_with fail
          go_returns
          exact ⟨rfl, Hid.mk_ ⟨S', D5.out, HS'.out, R5.out⟩⟩
        · have hb : ((cOf e f).h != 4) = true := by show (Bel.on e.q f != 4) = true; simp [h4]
          have ed : Hid (d' = dHears e ⟨(cOf e f).n, (cOf e f).i, 1⟩) := Hid.mk_ (by rw [HD.out, if_neg h4])
          clear h4
          go_upto_region 12 with fail
          have ws := Rum.Wr.set wc q5 2 (.int .i64 1)
          have D6 := Hid.mk_ (D5.out.wr ws NQ.out)
          have R6 := Hid.mk_ (R5.out.then_ ws (fun i hi => .inr (by rw [hi]; exact QW.out)))
          have y0 : (wc.setCell ⟨q5, 2, none⟩ (.int .i64 1)).cell? ⟨q5, 0, none⟩ = some (.int .i64 (cOf e f).n) := (World.cell?_setCell_other _ _ _ _ (by simp)).trans x0
          have y1 : (wc.setCell ⟨q5, 2, none⟩ (.int .i64 1)).cell? ⟨q5, 1, none⟩ = some (.int .i64 (cOf e f).i) := (World.cell?_setCell_other _ _ _ _ (by simp)).trans x1
          have y2 : (wc.setCell ⟨q5, 2, none⟩ (.int .i64 1)).cell? ⟨q5, 2, none⟩ = some (.int .i64 1) := World.cell?_setCell_same _ _ _ x2
          clear x0 x1 x2 f0 f1 f2 ws D5 R5
          generalize wc.setCell ⟨q5, 2, none⟩ (.int .i64 1) = w6 at *
          go_wp2_with (go_at_call 36; refine (hears w6 S' g e ⟨(cOf e f).n, (cOf e f).i, 1⟩ D6 MY d' ed _ (Hid.mk_ rfl)).mono ?_; rintro e0 w7 ⟨rfl, t7⟩)
          go_returns
          exact ⟨rfl, Hid.mk_ (DTurn.after R6.out HS'.out t7.out)⟩
end Go.Proofs.YthndjhocmpelcaaGreat.Swi
namespace Go.Proofs.YthndjhocmpelcaaGreat.Swi
open Go.RowKit Kit Hth Tri3
set_option linter.unusedVariables false
/-- An answer: its kind, to whom, its number, for whom. -/
@[reducible] def am (k t s fo : Int) : Array Value := msg k 0 t s fo 0 (.slice none 0 0)
set_option maxRecDepth 100000 in
set_option maxHeartbeats 8000000 in
theorem ans_ping (w : World) (S : Nat → Prop) (g : Nat) (d : Dt) (cs : Array Value) (k f t s fo ab : Int) (cl : Value) (hD : Hid (Det w S g d)) (hc : Hid (MsgC cs k f t s fo ab cl)) (hk : k = 1) :
    Calls Tryz.prog 43 #[.pointer (some ⟨g, 0, none⟩), .agg cs] w fun e w' => e = .returned (.agg (am 2 f s fo)) ∧ Below w.heap.size w w' := by
  have al1 := (Below.refl w.heap.size w).alloc (Nat.le_refl _) (.cells cs 46)
  have al2 : Below w.heap.size w ((w.alloc (.cells cs 46)).alloc (.cells zmsg 46)) := al1.alloc al1.size _
  have B1 := Hid.mk_ al2
  have M1 : Hid (((w.alloc (.cells cs 46)).alloc (.cells zmsg 46)).heap[w.heap.size]? = some (.cells cs 46 (0, 0))) := Hid.mk_ ((((Below.refl _ _).alloc (Nat.le_refl _) _).block w.heap.size (by simp)).trans (heap_alloc_new w _))
  have Z1 : Hid (((w.alloc (.cells cs 46)).alloc (.cells zmsg 46)).heap[w.heap.size + 1]? = some (.cells zmsg 46 (0, 0))) := Hid.mk_ (by
    have := heap_alloc_new (w.alloc (.cells cs 46)) (.cells zmsg 46)
    rw [show (w.alloc (.cells cs 46)).heap.size = w.heap.size + 1 by simp] at this
    exact this)
  clear al1 al2
  subst hk
  go_enter Tryz.func43, Tryz.ntmps43
  go_upto_block 0 with fail
  generalize (w.alloc (.cells cs 46)).alloc (.cells zmsg 46) = w1 at *
  obtain ⟨z, hz⟩ : ∃ z, z = w.heap.size := ⟨_, rfl⟩
  have HZ := Hid.mk_ hz
  rw [← hz] at M1 Z1 ⊢
  clear hz
  have m0 : w1.cell? ⟨z, 0, none⟩ = some (.int .i64 1) := by rw [cell_of_row w1 z 0 cs 46 (0, 0) M1.out]; exact hc.out.c0
  have m1 : w1.cell? ⟨z, 1, none⟩ = some (.int .i64 f) := by rw [cell_of_row w1 z 1 cs 46 (0, 0) M1.out]; exact hc.out.c1
  have m3 : w1.cell? ⟨z, 3, none⟩ = some (.int .i64 s) := by rw [cell_of_row w1 z 3 cs 46 (0, 0) M1.out]; exact hc.out.c3
  have m4 : w1.cell? ⟨z, 4, none⟩ = some (.int .i64 fo) := by rw [cell_of_row w1 z 4 cs 46 (0, 0) M1.out]; exact hc.out.c4
  have one : Hid ((am 2 f s fo).all (·.oneCell') = true) := Hid.mk_ (msg_one rfl)
  go_wp2_with (refine wpList_store_row rfl 46 _ _ rfl (z + 1) (am 2 f s fo) rfl rfl 46 _ Z1.out size42 rfl one.out ?_)
  have hg := setRow_heap w1 (z + 1) _ (am 2 f s fo) 46 (0, 0) Z1.out
  (try simp only [Exit.inBlock, Exit.then])
  refine bodyPost_ret (v := .agg (am 2 f s fo)) (results_cell_row rfl _ _ (z + 1) 46 (am 2 f s fo) (0, 0) _ rfl hg Tryz.underlying46 rfl size42) rfl ⟨rfl, ?_⟩
  have wr : Rum.Wr w1 (w1.setRow (z + 1) (am 2 f s fo)) (fun j => j = z + 1) := ⟨rfl, rfl, rfl, by simp, fun j hj hn => setRow_other w1 (z + 1) j _ hn⟩
  exact B1.out.trans (wr.below B1.out.size (fun i hi => by have := HZ.out; omega))
/-- What is answered, and what the answer turns. -/
def aMsg (d : Dt) (k f s fo ab : Int) : Array Value :=
  if k = 1 then am 2 f s fo
  else if k = 2 then (if fo = d.self then am 0 0 0 0 else if nodeB fo then am 2 fo s fo else am 0 0 0 0)
  else if k = 3 ∧ nodeB ab = true ∧ ab ≠ d.self then am 1 ab s f else am 0 0 0 0
def dAns (d : Dt) (k s fo : Int) : Dt :=
  if k = 2 ∧ fo = d.self ∧ s = d.seq ∧ d.asked ≠ -1 then { d with M := Wat.without 2 (Wat.without 1 d.M), asked := -1 } else d
theorem ret_row {w1 : World} {z : Nat} {old : Array Value} (mm : Array Value) (h : w1.heap[z]? = some (.cells old 46 (0, 0))) : (w1.setRow z mm).heap[z]? = some (.cells mm 46 (0, 0)) := setRow_heap w1 z _ mm 46 (0, 0) h
theorem wr_row (w1 : World) (z : Nat) (mm : Array Value) : Rum.Wr w1 (w1.setRow z mm) (fun j => j = z) := ⟨rfl, rfl, rfl, by simp, fun j hj hn => setRow_other w1 z j _ hn⟩
end Go.Proofs.YthndjhocmpelcaaGreat.Swi
