/- The document's detector hears, leaves, is made. Conditions: as each theorem says. -/
import Derived.Test.YthndjhocmpelcaaGreatRdD
namespace Go.Proofs.YthndjhocmpelcaaGreat.Rd
open Go.RowKit Kit Tri3 Swi
open Go.Proofs.YthndjhocmpelcaaGreat.Hth (cmpI cmpC nodeB mayC)
set_option linter.unusedVariables false
theorem hearR (w : World) (S : Nat → Prop) (g : Nat) (d : Dt) (c : Cl) (hD : Hid (DetD w S g d)) (hm : Hid (true = mayC c.n c.i c.h)) (d' : Dt) (hd : Hid (d' = dHears d c)) (e0 : Int) (he : Hid (e0 = heE d c)) :
    Calls Tryz.prog 39 #[.pointer (some ⟨g, 0, none⟩), .agg #[.int .i64 c.n, .int .i64 c.i, .int .i64 c.h]] w fun e w' => e = .returned (.int .i64 e0) ∧ Hid (RTurn w w' S g d') := by
  by_cases hs : c.n = d.self
  · have h1 : d' = dRef d c.i c.h := by rw [hd.out]; unfold dHears; rw [if_pos hs]
    have h2 : e0 = rfE d.inc c.i c.h := by rw [he.out]; unfold heE; rw [if_pos hs]
    rw [hs]
    exact hearS w S g d c.i c.h hD (Hid.mk_ (by rw [← hs]; exact hm.out)) d' (Hid.mk_ h1) e0 (Hid.mk_ h2)
  · have h2 : e0 = 0 := by rw [he.out]; unfold heE; rw [if_neg hs]
    subst h2
    exact hearN w S g d c hD hm hs d' hd
/-- What comes behind, below. -/
theorem RTurn.then_below {w w1 w2 : World} {S : Nat → Prop} {g : Nat} {d : Dt} (h : RTurn w w1 S g d) (hb : Below w1.heap.size w1 w2) : RTurn w w2 S g d := by
  obtain ⟨S1, h1, k1, r1⟩ := h
  exact ⟨S1, h1.below hb, k1, r1.then_ (Rum.Wr.of_below hb (fun _ => False)) (fun _ h => h.elim)⟩
end Go.Proofs.YthndjhocmpelcaaGreat.Rd
namespace Go.Proofs.YthndjhocmpelcaaGreat.Rd
open Go.RowKit Kit Tri3 Swi
open Go.Proofs.YthndjhocmpelcaaGreat.Hth (cmpI cmpC nodeB mayC)
set_option linter.unusedVariables false
set_option maxRecDepth 100000 in
set_option maxHeartbeats 4000000 in
theorem hear9 (w : World) (S : Nat → Prop) (g : Nat) (d : Dt) (c : Cl) (hD : Hid (DetD w S g d)) (d' : Dt) (hd : Hid (d' = dHear d c)) (e0 : Int) (he : Hid (e0 = hE d c)) :
    Calls Tryz.prog 9 #[.pointer (some ⟨g, 0, none⟩), .agg #[.int .i64 c.n, .int .i64 c.i, .int .i64 c.h]] w fun e w' => e = .returned (.int .i64 e0) ∧ Hid (RTurn w w' S g d') := by
  have al := Hid.mk_ ((Below.refl w.heap.size w).alloc (Nat.le_refl _) (.cells #[.int .i64 c.n, .int .i64 c.i, .int .i64 c.h] 30))
  have bx := Hid.mk_ (Rum.Box3.made w c.n c.i c.h)
  have D1 := Hid.mk_ (hD.out.below al.out)
  have bad : goodC c = false → d' = d ∧ e0 = 1 := fun h => ⟨by rw [hd.out]; unfold dHear; rw [h]; rfl, by rw [he.out]; unfold hE; rw [h]; rfl⟩
  have BAD := Hid.mk_ bad
  clear bad
  obtain ⟨x0, x1, x2, _, _, _⟩ := bx.out
  cases hm : mayC c.n c.i c.h with
  | false =>
    obtain ⟨e1, e2⟩ := BAD.out (by unfold goodC; rw [hm]; rfl)
    subst e1 e2
    have HM := Hid.mk_ hm.symm
    clear hm hd he BAD
    go_enter Tryz.func9, Tryz.ntmps9
    go_upto_region 1 with fail
    generalize w.alloc (.cells #[.int .i64 c.n, .int .i64 c.i, .int .i64 c.h] 30) = w1 at *
    go_wp2_with (go_at_call 37; refine (Rth.may1 _ _ _ _ false HM).mono ?_; rintro e w2 ⟨rfl, b2⟩)
    go_ret
    exact ⟨rfl, Hid.mk_ (RTurn.of_below hD.out (al.out.trans (b2.mono al.out.size)))⟩
  | true =>
    have HM := Hid.mk_ hm.symm
    by_cases h0 : c.h = 0
    · obtain ⟨e1, e2⟩ := BAD.out (by unfold goodC; rw [hm, h0]; rfl)
      subst e1 e2
      have HN : Hid (true = decide (c.i = 0 ∧ c.h = 0)) := Hid.mk_ (by unfold mayC at hm; simp at hm; simp [h0]; omega)
      clear hm hd he BAD h0
      go_enter Tryz.func9, Tryz.ntmps9
      go_upto_region 1 with fail
      generalize w.alloc (.cells #[.int .i64 c.n, .int .i64 c.i, .int .i64 c.h] 30) = w1 at *
      go_wp2_with (first
        | (go_at_call 37; refine (Rth.may1 _ _ _ _ true HM).mono ?_; rintro e w2 ⟨rfl, b2⟩; have y0 := keepC b2 x0; have y1 := keepC b2 x1; have y2 := keepC b2 x2)
        | (go_at_call 38; refine (Rth.nothing1 _ _ _ _ true HN).mono ?_; rintro e w3 ⟨rfl, b3⟩))
      go_ret
      have B2 := al.out.trans (b2.mono al.out.size)
      exact ⟨rfl, Hid.mk_ (RTurn.of_below hD.out (B2.trans (b3.mono B2.size)))⟩
    · have hg : goodC c = true := by unfold goodC; rw [hm]; simp [h0]
      have ed : Hid (d' = dHears d c) := Hid.mk_ (by rw [hd.out]; unfold dHear; rw [hg]; rfl)
      have ee : Hid (e0 = heE d c) := Hid.mk_ (by rw [he.out]; unfold hE; rw [hg]; rfl)
      have HN : Hid (false = decide (c.i = 0 ∧ c.h = 0)) := Hid.mk_ (by simp [h0])
      clear hm hd he BAD h0 hg
      go_enter Tryz.func9, Tryz.ntmps9
      go_upto_region 1 with fail
      generalize w.alloc (.cells #[.int .i64 c.n, .int .i64 c.i, .int .i64 c.h] 30) = w1 at *
      go_wp2_with (first
        | (go_at_call 37; refine (Rth.may1 _ _ _ _ true HM).mono ?_; rintro e w2 ⟨rfl, b2⟩; have y0 := keepC b2 x0; have y1 := keepC b2 x1; have y2 := keepC b2 x2)
        | (go_at_call 38; refine (Rth.nothing1 _ _ _ _ false HN).mono ?_; rintro e w3 ⟨rfl, b3⟩; have u0 := keepC b3 y0; have u1 := keepC b3 y1; have u2 := keepC b3 y2)
        | (go_at_call 39; refine (hearR w3 S g d c (Hid.mk_ ((D1.out.below b2).below b3)) HM d' ed e0 ee).mono ?_; rintro e w4 ⟨rfl, t4⟩))
      go_ret
      have B2 := al.out.trans (b2.mono al.out.size)
      have B3 := B2.trans (b3.mono B2.size)
      exact ⟨rfl, Hid.mk_ (RTurn.after (Rum.Wr.of_below B3 S) (fun k hk => .inl hk) t4.out)⟩
end Go.Proofs.YthndjhocmpelcaaGreat.Rd
namespace Go.Proofs.YthndjhocmpelcaaGreat.Rd
open Go.RowKit Kit Tri3 Swi
open Go.Proofs.YthndjhocmpelcaaGreat.Hth (cmpI cmpC nodeB mayC)
set_option linter.unusedVariables false
set_option maxRecDepth 100000 in
set_option maxHeartbeats 4000000 in
theorem leaveR (w : World) (S : Nat → Prop) (g : Nat) (d : Dt) (hD : Hid (DetD w S g d)) (d' : Dt) (hd : Hid (d' = dLeave d)) (v : Value) (hv : Hid (v = .agg #[.int .i64 d.self, .int .i64 d.inc, .int .i64 4])) :
    Calls Tryz.prog 11 #[.pointer (some ⟨g, 0, none⟩)] w fun e w' => e = .returned v ∧ Hid (RTurn w w' S g d') := by
  obtain ⟨gv, gq, go, gc, A, B, n, c, C, X⟩ := hD.out
  have bx := Hid.mk_ (Rum.Box3.made w 0 0 0)
  have al := Hid.mk_ ((Below.refl w.heap.size w).alloc (Nat.le_refl _) (.cells #[.int .i64 0, .int .i64 0, .int .i64 0] 30))
  have NS := Hid.mk_ X.blk
  have X1 := Hid.mk_ (X.below al.out)
  clear X
  go_enter Tryz.func11, Tryz.ntmps11
  go_upto_region 1 with fail
  generalize w.alloc (.cells #[.int .i64 0, .int .i64 0, .int .i64 0] 30) = w1 at *
  obtain ⟨z, hz⟩ : ∃ z, z = w.heap.size := ⟨_, rfl⟩
  have HZ := Hid.mk_ hz
  have NZ : Hid (∀ k, S k → k < z) := Hid.mk_ (fun k hk => by have := NS.out k hk; omega)
  rw [← hz] at bx ⊢
  clear hz
  have gz : g ≠ z := fun e => by have := NZ.out g X1.out.sg; omega
  obtain ⟨x0, x1, x2, f0, f1, f2⟩ := bx.out
  have c0 : w1.cell? ⟨g, 0, none⟩ = some (.int .i64 d.self) := X1.out.dcs.cell 0
  have c1 : w1.cell? ⟨g, 1, none⟩ = some (.int .i64 d.inc) := X1.out.dcs.cell 1
  have az : Below w1.heap.size w1 (w1.alloc (.cells #[.int .i64 0, .int .i64 0, .int .i64 0] 30)) := (Below.refl _ _).alloc (Nat.le_refl _) _
  have k0 := keepC az c0
  have k1 := keepC az c1
  have lt1 := X1.out.dcs.lt
  have lt2 := bx.out.lt
  go_region
  have dr0 : Below (w1.alloc (.cells #[.int .i64 d.self, .int .i64 d.inc, .int .i64 4] 30)).heap.size (w1.alloc (.cells #[.int .i64 d.self, .int .i64 d.inc, .int .i64 4] 30)) (w1.alloc (.cells #[.int .i64 d.self, .int .i64 d.inc, .int .i64 4] 30)).drew := (Below.refl _ _).drew
  have az2 : Below w1.heap.size w1 (w1.alloc (.cells #[.int .i64 d.self, .int .i64 d.inc, .int .i64 4] 30)).drew := ((Below.refl _ _).alloc (Nat.le_refl _) _).drew
  have BY := Hid.mk_ (box3k (Rum.Box3.made w1 d.self d.inc 4) dr0)
  have BZ := Hid.mk_ (box3k bx.out az2)
  have X3 := Hid.mk_ (X1.out.below az2)
  have al3 := Hid.mk_ (al.out.trans (az2.mono al.out.size))
  obtain ⟨y, hy⟩ : ∃ y, y = w1.heap.size := ⟨_, rfl⟩
  rw [← hy] at BY ⊢
  have HY : Hid (z < y) := Hid.mk_ (by rw [hy]; exact lt2)
  have NY : Hid (∀ k, S k → k < y) := Hid.mk_ (fun k hk => by have := NZ.out k hk; omega)
  clear hy az k0 k1 dr0 az2 x0 x1 x2 f0 f1 f2 c0 c1 lt1 lt2 X1 al bx
  generalize (w1.alloc (.cells #[.int .i64 d.self, .int .i64 d.inc, .int .i64 4] 30)).drew = w3 at *
  obtain ⟨x0, x1, x2, f0, f1, f2⟩ := BZ.out
  obtain ⟨y0, y1, y2, g0, g1, g2⟩ := BY.out
  cases hl : d.left with
  | true =>
    have c10 : w3.cell? ⟨g, 6, none⟩ = some (.bool true) := by rw [← hl]; exact X3.out.dcs.cell 6
    have ed : d' = d := by rw [hd.out]; unfold dLeave; rw [hl]; rfl
    subst ed
    clear hd hl
    go_wp2_with fail
    have b4 := BZ.out.set d'.self d'.inc 4
    have ws : Rum.Wr w3 (((w3.setCell ⟨z, 0, none⟩ (.int .i64 d'.self)).setCell ⟨z, 1, none⟩ (.int .i64 d'.inc)).setCell ⟨z, 2, none⟩ (.int .i64 4)) (fun k => k = z) := ((Rum.Wr.set w3 z 0 _).then_ (Rum.Wr.set _ z 1 _) (fun i hi => .inl hi)).then_ (Rum.Wr.set _ z 2 _) (fun i hi => .inl hi)
    generalize ((w3.setCell ⟨z, 0, none⟩ (.int .i64 d'.self)).setCell ⟨z, 1, none⟩ (.int .i64 d'.inc)).setCell ⟨z, 2, none⟩ (.int .i64 4) = w4 at *
    have X4 := X3.out.wr ws (fun k hk e => by have := NZ.out k hk; omega)
    have ev := hv.out
    clear hv x0 x1 x2 f0 f1 f2
    subst ev
    obtain ⟨x0, x1, x2, f0, f1, f2⟩ := b4
    (try simp only [Exit.inBlock, Exit.then])
    refine bodyPost_ret (v := .agg #[.int .i64 d'.self, .int .i64 d'.inc, .int .i64 4]) ?_ rfl ⟨rfl, Hid.mk_ ⟨S, ⟨gv, gq, go, gc, A, B, n, c, C, X4⟩, fun k hk => .inl hk, (Rum.Wr.of_below al3.out S).then_ ws (fun i hi => .inr (by rw [hi, HZ.out]; exact Nat.le_refl _))⟩⟩
    rw [results_cell1 rfl]
    go_simp
  | false =>
    have c10 : w3.cell? ⟨g, 6, none⟩ = some (.bool false) := by rw [← hl]; exact X3.out.dcs.cell 6
    have f10 : w3.frozen? ⟨g, 6, none⟩ = false := X3.out.dcs.fr 6
    have ed : d' = dSays { d with left := true } 4 := by rw [hd.out]; unfold dLeave; rw [hl]; rfl
    have HED := Hid.mk_ ed
    clear hd hl ed
    go_upto_region 4 with fail
    have gy : g ≠ y := fun e => by have := NY.out g X3.out.sg; omega
    have ws := Rum.Wr.set w3 g 6 (.bool true)
    have X4 := Hid.mk_ (X3.out.turnD ws (X3.out.dcs.set 6 (.bool true) { d with left := true } rfl) ⟨X3.out.ok.self, X3.out.ok.inc, X3.out.ok.now, X3.out.ok.seq, X3.out.ok.asked⟩ ⟨rfl, rfl, rfl, rfl, rfl, rfl⟩)
    have R4 : Hid (Rum.Wr w (w3.setCell ⟨g, 6, none⟩ (.bool true)) S) := Hid.mk_ ((Rum.Wr.of_below al3.out S).then_ ws (fun i hi => .inl (by rw [hi]; exact X3.out.sg)))
    have BZ4 := Hid.mk_ (box3w BZ.out ws (fun e => gz e.symm))
    have BY4 := Hid.mk_ (box3w BY.out ws (fun e => gy e.symm))
    have LZ : Hid (w.heap.size ≤ z) := Hid.mk_ (by rw [HZ.out]; exact Nat.le_refl _)
    clear c10 f10 X3 al3 BZ BY ws x0 x1 x2 f0 f1 f2 y0 y1 y2 g0 g1 g2
    generalize w3.setCell ⟨g, 6, none⟩ (.bool true) = w4 at *
    obtain ⟨y0, y1, y2, g0, g1, g2⟩ := BY4.out
    clear g0 g1 g2
    have c2 : w4.cell? ⟨g, 7, none⟩ = some (.pointer (some ⟨gv, 0, none⟩)) := X4.out.dcs.cell 7
    have NG : Hid (¬ y = gv) := Hid.mk_ (fun e => by have := NY.out gv X4.out.sv; omega)
    go_region_held3 (fun w' => w'.cell? ⟨g, 7, none⟩ = some (.pointer (some ⟨gv, 0, none⟩)) ∧ w'.cell? ⟨y, 0, none⟩ = some (.int .i64 d.self) ∧ w'.cell? ⟨y, 1, none⟩ = some (.int .i64 d.inc) ∧ w'.cell? ⟨y, 2, none⟩ = some (.int .i64 4)) (first | exact ⟨by assumption, by assumption, by assumption, by assumption⟩ | go_keep) (first
      | (go_at_call 34; refine (Rvw.hear0 d.p d.q gv d.self d.inc 4 w4.drew (X4.out.below (Below.refl _ _).drew).vw).mono ?_; rintro e w5 ⟨rfl, hv5, hg5⟩; have r5 := Rum.Wr.of_gb hg5; have s2 := r5.cell (by exact c2) X4.out.ne.1; have s3 := r5.cell (by exact y0) NG.out; have s4 := r5.cell (by exact y1) NG.out; have s5 := r5.cell (by exact y2) NG.out)
      | fail)
    have dr : Below w4.heap.size w4 w4.drew := (Below.refl _ _).drew
    have X5 := Hid.mk_ ((X4.out.below dr).heard ⟨d.self, d.inc, 4⟩ hv5 hg5)
    have R5 : Hid (Rum.Wr w w5 S) := Hid.mk_ ((R4.out.then_ (Rum.Wr.of_below dr (fun _ => False)) (fun _ h => h.elim)).then_ r5 (fun i hi => .inl (by rw [hi]; exact X4.out.sv)))
    have BY5 := Hid.mk_ (box3w (box3k BY4.out dr) r5 NG.out)
    have BZ5 := Hid.mk_ (box3w (box3k BZ4.out dr) r5 (fun e => by have := NZ.out gv X4.out.sv; omega))
    clear c2 y0 y1 y2 s2 s3 s4 s5 X4 BY4 BZ4 R4 hv5 hg5 r5 dr
    obtain ⟨y0, y1, y2, g0, g1, g2⟩ := BY5.out
    clear g0 g1 g2
    have c3 : w5.cell? ⟨g, 8, none⟩ = some (.pointer (some ⟨gq, 0, none⟩)) := X5.out.dcs.cell 8
    obtain ⟨R0, qR, hp0⟩ := X5.out.qu
    have QD : Hid (Rum.RQ w5 gq 3 A R0) := Hid.mk_ qR
    have HP0 : Hid (R0.Perm d.L) := Hid.mk_ hp0
    have HST : Hid (Rum.St d.L) := Hid.mk_ X5.out.st
    have HLT : Hid (Rum.Lt 3 d.L) := Hid.mk_ X5.out.lt
    clear qR hp0
    obtain ⟨M, hM⟩ : ∃ M, M = Rum.putQ ⟨d.self, d.inc, 4⟩ d.L := ⟨_, rfl⟩
    have HM := Hid.mk_ hM
    clear hM
    have NQ : Hid (¬ Rum.Its gq A y) := Hid.mk_ (fun e => by have := NY.out y (X5.out.sq y e); omega)
    have NQz : Hid (¬ Rum.Its gq A z) := Hid.mk_ (fun e => by have := NZ.out z (X5.out.sq z e); omega)
    go_upto_region 5 with fail
    go_region_held3 (fun w' => w'.cell? ⟨g, 8, none⟩ = some (.pointer (some ⟨gq, 0, none⟩)) ∧ w'.cell? ⟨y, 0, none⟩ = some (.int .i64 d.self) ∧ w'.cell? ⟨y, 1, none⟩ = some (.int .i64 d.inc) ∧ w'.cell? ⟨y, 2, none⟩ = some (.int .i64 4)) (first | exact ⟨by assumption, by assumption, by assumption, by assumption⟩ | go_keep) (first
      | (go_at_call 41; refine (Rum.rput w5.drew gq 3 A R0 d.L ⟨d.self, d.inc, 4⟩ (by exact Hid.mk_ (QD.out.below (Below.refl _ _).drew)) HP0 HST _ (Hid.mk_ rfl) M HM).mono ?_; rintro e w6 ⟨rfl, R6', p6, t6⟩; have r6 := rturnWr t6.out; have s2 := r6.cell (by exact c3) X5.out.ne.2; have s3 := r6.cell (by exact y0) NQ.out; have s4 := r6.cell (by exact y1) NQ.out; have s5 := r6.cell (by exact y2) NQ.out)
      | fail)
    have dr : Below w5.heap.size w5 w5.drew := (Below.refl _ _).drew
    obtain ⟨A6, S6, x6, hS6, rS6⟩ := (X5.out.below dr).turnQ t6.out p6.out (by rw [HM.out]; exact HST.out.putQ _) (by rw [HM.out]; exact HLT.out.putQ (by decide) _)
    have X6 := Hid.mk_ x6
    have RS6 := Hid.mk_ rS6
    have HS6 := Hid.mk_ hS6
    have BY6 := box3w (box3k BY5.out dr) r6 NQ.out
    have BZ6 := Hid.mk_ (box3w (box3k BZ5.out dr) r6 NQz.out)
    have ltz := Hid.mk_ BZ5.out.lt
    have dr := Hid.mk_ dr
    have R6 := Hid.mk_ ((R5.out.then_ (Rum.Wr.of_below dr.out (fun _ => False)) (fun _ h => h.elim)).then_ rS6 (fun i hi => .inl hi))
    have SZ5 := Hid.mk_ R5.out.size
    clear x6 rS6 hS6 r6 t6 p6 s2 s3 s4 s5 c3 y0 y1 y2 QD X5 BY5 BZ5 R5
    obtain ⟨y0, y1, y2, g0, g1, g2⟩ := BY6
    obtain ⟨x0, x1, x2, f0, f1, f2⟩ := BZ6.out
    go_wp2_with fail
    have b4 := BZ6.out.set d.self d.inc 4
    have ws : Rum.Wr w6 (((w6.setCell ⟨z, 0, none⟩ (.int .i64 d.self)).setCell ⟨z, 1, none⟩ (.int .i64 d.inc)).setCell ⟨z, 2, none⟩ (.int .i64 4)) (fun k => k = z) := ((Rum.Wr.set w6 z 0 _).then_ (Rum.Wr.set _ z 1 _) (fun i hi => .inl hi)).then_ (Rum.Wr.set _ z 2 _) (fun i hi => .inl hi)
    generalize ((w6.setCell ⟨z, 0, none⟩ (.int .i64 d.self)).setCell ⟨z, 1, none⟩ (.int .i64 d.inc)).setCell ⟨z, 2, none⟩ (.int .i64 4) = w7 at *
    have N6 : ∀ k, S6 k → k ≠ z := fun k hk e => by
      rcases HS6.out k hk with h1 | h1
      · have := NZ.out k h1; omega
      · have := ltz.out; have := dr.out.size; omega
    have X7 := X6.out.wr ws N6
    have ev := hv.out
    clear hv x0 x1 x2 f0 f1 f2 y0 y1 y2 g0 g1 g2
    subst ev
    obtain ⟨x0, x1, x2, f0, f1, f2⟩ := b4
    (try simp only [Exit.inBlock, Exit.then])
    refine bodyPost_ret (v := .agg #[.int .i64 d.self, .int .i64 d.inc, .int .i64 4]) ?_ rfl ⟨rfl, Hid.mk_ ?_⟩
    · rw [results_cell1 rfl]
      go_simp
    · rw [HED.out]
      rw [HM.out] at X7
      exact ⟨S6, ⟨gv, gq, go, gc, A6, B, n, c, C, X7⟩, fun k hk => (HS6.out k hk).elim .inl (fun h => .inr (by have := SZ5.out; have := dr.out.size; omega)), R6.out.then_ ws (fun i hi => .inr (by rw [hi]; exact LZ.out))⟩
end Go.Proofs.YthndjhocmpelcaaGreat.Rd
namespace Go.Proofs.YthndjhocmpelcaaGreat.Rd
open Go.RowKit Kit Tri3 Swi
open Go.Proofs.YthndjhocmpelcaaGreat.Hth (cmpI cmpC nodeB mayC)
set_option linter.unusedVariables false
theorem det0R {w w1 w2 : World} {self inc : Int} {gv gq : Nat} (hs : 0 ≤ self ∧ self ≤ 7) (hi : 0 ≤ inc ∧ inc ≤ 1000000) (v1 : w.heap.size ≤ gv) (v2 : Rvw.Vw w1 gv Bel.z8 Bel.z8) (b1 : Below w.heap.size w w1) (q1 : w1.heap.size ≤ gq) (q2 : Rum.RQ w2 gq 3 none []) (b2 : Below w1.heap.size w1 w2) (w3 w4 : World)
    (e3 : w3 = w2.alloc (.cells #[.int .i64 self, .slice none 0 0] 83)) (e4 : w4 = w3.alloc (.cells #[.slice none 0 0] 86)) :
    DetR (w4.alloc (.cells (rc (d0 self inc) gv gq w2.heap.size w3.heap.size) 63)) (fun k => w.heap.size ≤ k ∧ k ≤ w4.heap.size) w4.heap.size (d0 self inc) gv gq w2.heap.size w3.heap.size none none 0 0 none ∧ Below w.heap.size w (w4.alloc (.cells (rc (d0 self inc) gv gq w2.heap.size w3.heap.size) 63)) := by
  have al := (Below.refl w4.heap.size w4).alloc (Nat.le_refl _) (.cells (rc (d0 self inc) gv gq w2.heap.size w3.heap.size) 63)
  have lv := v2.lt
  have lq := (q2.its gq (.inl rfl)).2
  have b3 : Below w2.heap.size w2 w3 := by rw [e3]; exact (Below.refl _ _).alloc (Nat.le_refl _) _
  have b4 : Below w3.heap.size w3 w4 := by rw [e4]; exact (Below.refl _ _).alloc (Nat.le_refl _) _
  have o2 : Prb.Odr w3 w2.heap.size self none 0 0 [] := by
    rw [e3]
    refine ⟨?_, ?_, ?_, rfl, Nat.le_refl _, by omega, .inl ⟨rfl, rfl⟩⟩
    · rw [World.cell?_alloc_new]; rfl
    · rw [World.cell?_alloc_new]; rfl
    · exact frozen_of_row _ _ _ _ _ (heap_alloc_new w2 _)
  have c2 : Wat.Ref w4 w3.heap.size none [] := by
    rw [e4]
    refine ⟨0, 0, ?_, ?_, rfl, ⟨by omega, by omega⟩, Wat.MRow.nil _ _, .inl ⟨rfl, rfl⟩⟩
    · rw [World.cell?_alloc_new]; rfl
    · exact frozen_of_row _ _ _ _ _ (heap_alloc_new w3 _)
  have lo := o2.lt
  have lc := (c2.its _ (.inl rfl)).2
  have z1 := b1.size; have z2 := b2.size; have z3 := b3.size; have z4 := b4.size
  have n1 : ∀ k, Rum.Its gq none k → k = gq := fun k hk => by
    rcases hk with h | ⟨off, h⟩
    · exact h
    · cases h
  have n2 : ∀ k, Prb.Its w2.heap.size none k → k = w2.heap.size := fun k hk => by
    rcases hk with h | ⟨off, h⟩
    · exact h
    · cases h
  have n3 : ∀ k, Wat.Its w3.heap.size none k → k = w3.heap.size := fun k hk => by
    rcases hk with h | ⟨off, h⟩
    · exact h
    · cases h
  have bb : Below w.heap.size w w4 := ((b1.trans (b2.mono z1)).trans (b3.mono (by omega))).trans (b4.mono (by omega))
  refine ⟨⟨⟨hs, hi, by show (0 : Int) ≤ 0 ∧ (0 : Int) ≤ 1000000; omega, by show (0 : Int) ≤ 0 ∧ (0 : Int) ≤ 1000000; omega, by show (-1 : Int) ≤ -1 ∧ (-1 : Int) ≤ 7; omega⟩, heap_alloc_new w4 _, ?_, ⟨[], ?_, .refl _⟩, Rum.St.nil, fun _ h => absurd h List.not_mem_nil, ?_, Nat.zero_le _, ?_, Wat.St.nil, ?_, ⟨by omega, Nat.le_refl _⟩, ⟨v1, by omega⟩, ?_, ?_, ?_, ?_⟩, bb.alloc bb.size _⟩
  · exact (((v2.below b2 lv).below b3 (by omega)).below b4 (by omega)).below al (by omega)
  · exact ((q2.below b3).below b4).below al
  · exact (o2.below b4).below al
  · exact c2.below (by exact al)
  · intro k hk; simp; omega
  · intro k hk; rw [n1 k hk]; omega
  · intro k hk; rw [n2 k hk]; omega
  · intro k hk; rw [n3 k hk]; omega
  · refine ⟨fun k => if k = w4.heap.size then 0 else if k = gv then 1 else if k = gq then 2 else if k = w2.heap.size then 3 else 4, by simp, ?_, ?_, ?_, ?_⟩
    · simp only; rw [if_neg (by omega), if_pos trivial]
    · intro k hk; rw [n1 k hk]; simp only; rw [if_neg (by omega), if_neg (by omega), if_pos trivial]
    · intro k hk; rw [n2 k hk]; simp only; rw [if_neg (by omega), if_neg (by omega), if_neg (by omega), if_pos trivial]
    · intro k hk; rw [n3 k hk]; simp only; rw [if_neg (by omega), if_neg (by omega), if_neg (by omega), if_neg (by omega)]
theorem det0R' {w w1 w2 : World} {self inc : Int} {gv gq : Nat} (hs : 0 ≤ self ∧ self ≤ 7) (hi : 0 ≤ inc ∧ inc ≤ 1000000) (v1 : w.heap.size ≤ gv) (v2 : Rvw.Vw w1 gv Bel.z8 Bel.z8) (b1 : Below w.heap.size w w1) (q1 : w1.heap.size ≤ gq) (q2 : Rum.RQ w2 gq 3 none []) (b2 : Below w1.heap.size w1 w2) (w5 : World)
    (e5 : w5 = ((w2.alloc (.cells #[.int .i64 self, .slice none 0 0] 83)).alloc (.cells #[.slice none 0 0] 86)).alloc (.cells #[.int .i64 self, .int .i64 inc, .int .i64 0, .int .i64 0, .int .i64 (-1), .bool false, .bool false, .pointer (some ⟨gv, 0, none⟩), .pointer (some ⟨gq, 0, none⟩), .pointer (some ⟨w2.heap.size, 0, none⟩), .pointer (some ⟨w2.heap.size + 1, 0, none⟩)] 63)) :
    ∃ S, Hid (DetR w5 S (w2.heap.size + 1 + 1) (d0 self inc) gv gq w2.heap.size (w2.heap.size + 1) none none 0 0 none) ∧ Hid (∀ k, S k → w.heap.size ≤ k) ∧ Hid (Below w.heap.size w w5) := by
  have h := det0R hs hi v1 v2 b1 q1 q2 b2 _ _ rfl rfl
  have e1 : (w2.alloc (.cells #[.int .i64 self, .slice none 0 0] 83)).heap.size = w2.heap.size + 1 := by simp
  have e2 : ((w2.alloc (.cells #[.int .i64 self, .slice none 0 0] 83)).alloc (.cells #[.slice none 0 0] 86)).heap.size = w2.heap.size + 1 + 1 := by simp
  rw [e1, e2] at h
  subst e5
  exact ⟨_, Hid.mk_ h.1, Hid.mk_ (fun k hk => hk.1), Hid.mk_ h.2⟩
set_option maxRecDepth 100000 in
set_option maxHeartbeats 4000000 in
theorem newR (w : World) (self inc : Int) (hs : Hid (0 ≤ self ∧ self ≤ 7)) (hi : Hid (0 ≤ inc ∧ inc ≤ 1000000)) :
    Calls Tryz.prog 7 #[.int .i64 self, .int .i64 inc] w fun e w' => ∃ g S, e = .returned (.pointer (some ⟨g, 0, none⟩)) ∧ Hid (DetD w' S g (dNew self inc)) ∧ Hid (∀ k, S k → w.heap.size ≤ k) ∧ Below w.heap.size w w' := by
  have HN : Hid (true = decide (0 ≤ self ∧ self < 8)) := Hid.mk_ (by have := hs.out; simp; omega)
  have i0 : ¬ inc < 0 := by have := hi.out; omega
  have i1 : ¬ 1000000 < inc := by have := hi.out; omega
  have ho : Hid ((3 : Int) = Rum.ofn 3) := Hid.mk_ rfl
  go_enter Tryz.func7, Tryz.ntmps7
  go_upto_region 4 with (first
    | (go_at_call 31; refine (Prb.node self true HN _).mono ?_; rintro e w0 ⟨rfl, b0⟩)
    | (go_at_call 32; refine (Rvw.new0 _).mono ?_; rintro e w1 ⟨gv, rfl, v1, v2, b1⟩)
    | (go_at_call 33; refine (Rum.rnew0 _ 3 3 ho).mono ?_; rintro e w2 ⟨gq, rfl, q2, q1, b2⟩))
  obtain ⟨S, X5, NS, B5⟩ := det0R' (inc := inc) hs.out hi.out v1 v2 b1 q1.out q2.out b2 _ rfl
  clear v1 v2 b1 q1 q2 b2 i0 i1
  obtain ⟨g, hg⟩ : ∃ g, g = w2.heap.size + 1 + 1 := ⟨_, rfl⟩
  rw [← hg] at X5 ⊢
  obtain ⟨gc, hgc⟩ : ∃ gc, gc = w2.heap.size + 1 := ⟨_, rfl⟩
  rw [← hgc] at X5 B5 ⊢
  clear hg hgc
  generalize ((w2.alloc (.cells #[.int .i64 self, .slice none 0 0] 83)).alloc (.cells #[.slice none 0 0] 86)).alloc (.cells #[.int .i64 self, .int .i64 inc, .int .i64 0, .int .i64 0, .int .i64 (-1), .bool false, .bool false, .pointer (some ⟨gv, 0, none⟩), .pointer (some ⟨gq, 0, none⟩), .pointer (some ⟨w2.heap.size, 0, none⟩), .pointer (some ⟨gc, 0, none⟩)] 63) = w5 at *
  have c2 : w5.cell? ⟨g, 7, none⟩ = some (.pointer (some ⟨gv, 0, none⟩)) := X5.out.dcs.cell 7
  go_wp2_with (go_at_call 34; refine (Rvw.hear0 Bel.z8 Bel.z8 gv self inc 1 w5 X5.out.vw).mono ?_; rintro e w6 ⟨rfl, v6, g6⟩)
  go_ret
  have x6 := X5.out.heard ⟨self, inc, 1⟩ v6 g6
  have B5' := b0.trans (B5.out.mono b0.size)
  refine ⟨g, _, rfl, Hid.mk_ ⟨gv, gq, _, gc, none, none, 0, 0, none, x6⟩, Hid.mk_ (fun k hk => Nat.le_trans b0.size (NS.out k hk)), ?_⟩
  exact B5'.trans ((Rum.Wr.of_gb g6).below B5'.size (fun k hk => by rw [hk]; exact Nat.le_trans b0.size (NS.out _ X5.out.sv)))
set_option maxHeartbeats 4000000 in
theorem newRbad (w : World) (self inc : Int) (hb : ¬ (0 ≤ self ∧ self ≤ 7 ∧ 0 ≤ inc ∧ inc ≤ 1000000)) :
    Calls Tryz.prog 7 #[.int .i64 self, .int .i64 inc] w fun e w' => e = .returned (.pointer none) ∧ Below w.heap.size w w' := by
  cases hn : decide (0 ≤ self ∧ self < 8) with
  | false =>
    have HN := Hid.mk_ hn.symm
    clear hn hb
    go_enter Tryz.func7, Tryz.ntmps7
    go_wp2_with (go_at_call 31; refine (Prb.node self false HN _).mono ?_; rintro e w0 ⟨rfl, b0⟩)
    go_ret
    exact ⟨rfl, b0⟩
  | true =>
    have HN := Hid.mk_ hn.symm
    have hs : 0 ≤ self ∧ self < 8 := by simpa using hn
    by_cases i0 : inc < 0
    · clear hn hb hs
      go_enter Tryz.func7, Tryz.ntmps7
      go_wp2_with (go_at_call 31; refine (Prb.node self true HN _).mono ?_; rintro e w0 ⟨rfl, b0⟩)
      go_ret
      exact ⟨rfl, b0⟩
    · have i1 : 1000000 < inc := by omega
      clear hn hb hs
      go_enter Tryz.func7, Tryz.ntmps7
      go_wp2_with (go_at_call 31; refine (Prb.node self true HN _).mono ?_; rintro e w0 ⟨rfl, b0⟩)
      go_ret
      exact ⟨rfl, b0⟩
end Go.Proofs.YthndjhocmpelcaaGreat.Rd
namespace Go.Proofs.YthndjhocmpelcaaGreat.Rd
open Go.RowKit Kit Tri3 Swi
open Go.Proofs.YthndjhocmpelcaaGreat.Hth (cmpI cmpC nodeB mayC)
set_option linter.unusedVariables false
/-- As RTurn; and the detector's blocks are not in T. -/
def RTurnX (w w' : World) (S : Nat → Prop) (g : Nat) (d : Dt) (T : Nat → Prop) : Prop := ∃ S', DetD w' S' g d ∧ (∀ k, S' k → S k ∨ w.heap.size ≤ k) ∧ Rum.Wr w w' S ∧ ∀ k, S' k → ¬ T k
/-- One message was sent, and put behind a row of such. -/
def SentR (w w' : World) (S T : Nat → Prop) (g base : Nat) (d' : Dt) (v' : Value) (ms' : List Om) : Prop := ∃ S' T', DetD w' S' g d' ∧ (∀ k, S' k → S k ∨ w.heap.size ≤ k) ∧ Rum.Wr w w' (fun k => S k ∨ T k) ∧ Outs w' base v' ms' T' ∧ (∀ k, T' k → T k ∨ w.heap.size ≤ k) ∧ ∀ k, S' k → ¬ T' k
theorem sentR {w w1 w2 : World} {S T : Nat → Prop} {g base : Nat} {d' : Dt} {v : Value} {ms : List Om} (hO : Outs w base v ms T) (hb : base ≤ w.heap.size) (hT : ∀ i, S i → ¬ T i) (hm : ms.length ≤ 100000) (m : Om) (s : Sl) (q : Nat) (k : RTurnX w w1 S g d' (fun j => s.v.ownBlock = some j)) (hc : Rum.OwnC w1 w.heap.size s.v s.n m.cs)
    (hq : q = w1.heap.size) (hw : w2 = w1.alloc (.cells (rowM m s) 46)) (ty : TypeId) :
    ∃ v' w', (Builtin.append_ #[54, 54] ty #[v, .slice (some ⟨q, 0, none⟩) 1 1]).run Tryz.prog w2 = .ok v' w' ∧ Hid (SentR w w' S T g base d' v' (ms ++ [m])) := by
  subst hq hw
  obtain ⟨S2, k1, k2, k3, k4⟩ := k
  have b2 := (Below.refl w1.heap.size w1).alloc (Nat.le_refl _) (.cells (rowM m s) 46)
  have o1 := hO.wr k3 hT
  have o2 := o1.below b2
  have hc2 : Rum.OwnC (w1.alloc (.cells (rowM m s) 46)) base s.v s.n m.cs := ⟨hc.1, Prb_own_mono (Rowz.below hc.2 b2) hb⟩
  obtain ⟨v', w', hr, T', o3, g3, t3⟩ := o2.app m s w1.heap.size (by have := k3.size; have := b2.size; omega) hm (heap_alloc_new w1 _) hc2 (fun j hj ht => by have := (Rowz.blk hc.2 j hj).1; have := (hO.2.2 j ht).2; omega) ty
  have hS2T : ∀ i, S2 i → ¬ T i := fun i hi ht => (k2 i hi).elim (fun h => hT i h ht) (fun h => by have := (hO.2.2 i ht).2; omega)
  have r3 : Rum.Wr (w1.alloc (.cells (rowM m s) 46)) w' (fun j => v.ownBlock = some j) := ⟨g3.out.os, g3.out.tape, g3.out.output, g3.out.size, fun j hj hn => g3.out.block j hj (fun e => hn e.symm)⟩
  have d3 := (k1.below b2).wr r3 (fun i hi e => hS2T i hi (o2.2.1 i e))
  refine ⟨v', w', hr, Hid.mk_ ⟨S2, T', d3, k2, ?_, o3.out, fun i hi => ?_, fun i hi ht => ?_⟩⟩
  · exact ((k3.mono (fun i hi => .inl hi)).then_ (Rum.Wr.of_below b2 (fun _ => False)) (fun _ h => h.elim)).then_ r3 (fun i hi => .inl (.inr (o2.2.1 i hi)))
  · rcases t3.out i hi with h | h | h
    · exact .inl h
    · exact .inr (Rowz.blk hc.2 i h).1
    · have := b2.size; have := k3.size; exact .inr (by omega)
  · rcases t3.out i ht with h | h | h
    · exact hS2T i hi h
    · exact k4 i hi h
    · have := k1.blk i hi; have := b2.size; omega
/-- While a tick goes on: the detector at g, what is sent up to now; what there was ahead of it and is not the detector's is as it was. Its blocks are S'. -/
def RTS (w0 w : World) (S : Nat → Prop) (g : Nat) (v : Value) (d : Dt) (ms : List Om) (S' : Nat → Prop) : Prop :=
  ∃ T, DetD w S' g d ∧ (∀ k, S' k → S k ∨ w0.heap.size ≤ k) ∧ Rum.Wr w0 w S ∧ Outs w w0.heap.size v ms T ∧ ∀ k, S' k → ¬ T k
def RTI (w0 w : World) (S : Nat → Prop) (g : Nat) (v : Value) (d : Dt) (ms : List Om) : Prop := ∃ S', RTS w0 w S g v d ms S'
theorem RTI.start {w : World} {S : Nat → Prop} {g : Nat} {d : Dt} (h : DetD w S g d) : RTI w w S g (.slice none 0 0) d [] :=
  ⟨S, _, h, fun _ h => .inl h, Rum.Wr.of_below (Below.refl _ _) _, Outs.nil _ _, fun _ _ h => h⟩
theorem RTS.turn {w0 w w1 : World} {S S' : Nat → Prop} {g : Nat} {v : Value} {d d' : Dt} {ms : List Om} (h : RTS w0 w S g v d ms S') (k : RTurn w w1 S' g d') : RTI w0 w1 S g v d' ms := by
  obtain ⟨T, h1, h2, h3, h4, h5⟩ := h
  obtain ⟨S2, k1, k2, k3⟩ := k
  exact ⟨S2, T, k1, fun i hi => (k2 i hi).elim (h2 i) (fun h => .inr (Nat.le_trans h3.size h)), h3.then_ k3 h2, h4.wr k3 h5, fun i hi ht => (k2 i hi).elim (fun h => h5 i h ht) (fun h => by have := (h4.2.2 i ht).2; omega)⟩
theorem RTS.below {w0 w w1 : World} {S S' : Nat → Prop} {g : Nat} {v : Value} {d : Dt} {ms : List Om} (h : RTS w0 w S g v d ms S') (hb : Below w.heap.size w w1) : RTS w0 w1 S g v d ms S' := by
  obtain ⟨T, h1, h2, h3, h4, h5⟩ := h
  exact ⟨T, h1.below hb, h2, h3.then_ (Rum.Wr.of_below hb (fun _ => False)) (fun _ h => h.elim), h4.below hb, h5⟩
/-- A block that was made since is written. -/
theorem RTS.fresh {w0 w w1 : World} {S S' : Nat → Prop} {g : Nat} {v : Value} {d : Dt} {ms : List Om} {z : Nat} (h : RTS w0 w S g v d ms S') (hz : w.heap.size ≤ z) (hb : Below w.heap.size w w1) {w2 : World} (r : Rum.Wr w1 w2 (fun k => k = z)) : RTS w0 w2 S g v d ms S' :=
  h.below (r.below hb.size (fun i hi => by omega) |> fun r2 => hb.trans r2)
theorem RTS.det {w0 w : World} {S S' : Nat → Prop} {g : Nat} {v : Value} {d : Dt} {ms : List Om} (h : RTS w0 w S g v d ms S') : DetD w S' g d := by
  obtain ⟨T, h1, _⟩ := h
  exact h1
theorem RTI.wr {w0 w : World} {S : Nat → Prop} {g : Nat} {v : Value} {d : Dt} {ms : List Om} (h : RTI w0 w S g v d ms) : Rum.Wr w0 w S := by
  obtain ⟨S', T, h1, h2, h3, _⟩ := h
  exact h3
theorem RTI.form {w0 w : World} {S : Nat → Prop} {g : Nat} {v : Value} {d : Dt} {ms : List Om} (h : RTI w0 w S g v d ms) : ∃ A c, v = .slice A ms.length c ∧ ms.length ≤ c ∧ c ≤ 9223372036854775807 := by
  obtain ⟨S', T, h1, h2, h3, h4, h5⟩ := h
  exact h4.form
/-- The same; and what there was ahead of w4 and is not in U is as it was there. -/
def RUS (w0 : World) (S : Nat → Prop) (w4 : World) (U : Nat → Prop) (w : World) (g : Nat) (v : Value) (d : Dt) (ms : List Om) (S' : Nat → Prop) : Prop :=
  ∃ T, DetD w S' g d ∧ (∀ k, S' k → S k ∨ w0.heap.size ≤ k) ∧ Rum.Wr w0 w S ∧ Outs w w0.heap.size v ms T ∧ (∀ k, S' k → ¬ T k) ∧ (∀ k, S' k ∨ T k → U k ∨ w4.heap.size ≤ k) ∧ Rum.Wr w4 w U
def RTU (w0 : World) (S : Nat → Prop) (w4 : World) (U : Nat → Prop) (w : World) (g : Nat) (v : Value) (d : Dt) (ms : List Om) : Prop := ∃ S', RUS w0 S w4 U w g v d ms S'
theorem RTU.ti {w0 w4 w : World} {S U : Nat → Prop} {g : Nat} {v : Value} {d : Dt} {ms : List Om} (h : RTU w0 S w4 U w g v d ms) : RTI w0 w S g v d ms := by
  obtain ⟨S', T, h1, h2, h3, h4, h5, _⟩ := h
  exact ⟨S', T, h1, h2, h3, h4, h5⟩
theorem RUS.det {w0 w4 w : World} {S U S' : Nat → Prop} {g : Nat} {v : Value} {d : Dt} {ms : List Om} (h : RUS w0 S w4 U w g v d ms S') : DetD w S' g d := by
  obtain ⟨T, h1, _⟩ := h
  exact h1
theorem RTU.wr {w0 w4 w : World} {S U : Nat → Prop} {g : Nat} {v : Value} {d : Dt} {ms : List Om} (h : RTU w0 S w4 U w g v d ms) : Rum.Wr w4 w U := by
  obtain ⟨S', T, h1, h2, h3, h4, h5, h6, h7⟩ := h
  exact h7
theorem RUS.below {w0 w4 w w1 : World} {S U S' : Nat → Prop} {g : Nat} {v : Value} {d : Dt} {ms : List Om} (h : RUS w0 S w4 U w g v d ms S') (hb : Below w.heap.size w w1) : RUS w0 S w4 U w1 g v d ms S' := by
  obtain ⟨T, h1, h2, h3, h4, h5, h6, h7⟩ := h
  exact ⟨T, h1.below hb, h2, h3.then_ (Rum.Wr.of_below hb (fun _ => False)) (fun _ h => h.elim), h4.below hb, h5, h6, h7.then_ (Rum.Wr.of_below hb (fun _ => False)) (fun _ h => h.elim)⟩
/-- Where a tick asks others, it begins: U is all that is the detector's or was sent, ahead of w. -/
theorem RUS.start {w0 w w4 : World} {S S' : Nat → Prop} {g : Nat} {v : Value} {d : Dt} {ms : List Om} (h : RTS w0 w S g v d ms S') (hb : Below w.heap.size w w4) : ∃ U : Nat → Prop, Hid (∀ k, U k → k < w.heap.size) ∧ Hid (RUS w0 S w4 U w4 g v d ms S') := by
  obtain ⟨T, h1, h2, h3, h4, h5⟩ := h
  refine ⟨fun k => S' k ∨ T k, Hid.mk_ (fun k hk => hk.elim (h1.blk k) (fun h => (h4.2.2 k h).2)), Hid.mk_ ⟨T, h1.below hb, h2, h3.then_ (Rum.Wr.of_below hb (fun _ => False)) (fun _ h => h.elim), h4.below hb, h5, fun k hk => .inl hk, Rum.Wr.of_below (Below.refl _ _) _⟩⟩
theorem RUS.sent {w0 w4 w : World} {S U S' : Nat → Prop} {g : Nat} {v : Value} {d : Dt} {ms : List Om} (h : RUS w0 S w4 U w g v d ms S') : ∃ T, Hid (Outs w w0.heap.size v ms T) ∧ Hid (w0.heap.size ≤ w.heap.size) ∧ Hid (∀ i, S' i → ¬ T i) ∧ (∀ (w' : World) (d' : Dt) (v' : Value) (ms' : List Om), SentR w w' S' T g w0.heap.size d' v' ms' → RTU w0 S w4 U w' g v' d' ms') := by
  obtain ⟨T, h1, h2, h3, h4, h5, h6, h7⟩ := h
  refine ⟨T, Hid.mk_ h4, Hid.mk_ h3.size, Hid.mk_ h5, fun w' d' v' ms' k => ?_⟩
  obtain ⟨S2, T2, k1, k2, k3, k4, k5, k6⟩ := k
  have hs : w0.heap.size ≤ w.heap.size := h3.size
  have hs4 : w4.heap.size ≤ w.heap.size := h7.size
  refine ⟨S2, T2, k1, fun i hi => (k2 i hi).elim (h2 i) (fun h => .inr (Nat.le_trans hs h)), ?_, k4, k6, ?_, ?_⟩
  · exact h3.then_ k3 (fun i hi => hi.elim (h2 i) (fun h => .inr (h4.2.2 i h).1))
  · rintro i (hi | hi)
    · exact (k2 i hi).elim (fun h => h6 i (.inl h)) (fun h => .inr (Nat.le_trans hs4 h))
    · exact (k5 i hi).elim (fun h => h6 i (.inr h)) (fun h => .inr (Nat.le_trans hs4 h))
  · exact h7.then_ k3 (fun i hi => h6 i hi)
theorem RTI.done {w w0 w' : World} {S : Nat → Prop} {g : Nat} {v : Value} {d : Dt} {ms : List Om} (h : RTI w0 w' S g v d ms) (h0 : Rum.Wr w w0 S) : ∃ T, Hid (Outs w' w.heap.size v ms T) ∧ Hid (RTurnX w w' S g d T) := by
  obtain ⟨S', T, h1, h2, h3, h4, h5⟩ := h
  exact ⟨T, Hid.mk_ (h4.base h0.size), Hid.mk_ ⟨S', h1, fun i hi => (h2 i hi).elim .inl (fun h => .inr (Nat.le_trans h0.size h)), h0.then_ h3 (fun i hi => .inl hi), h5⟩⟩
theorem wpList_appM (w : World) {ops : Array Oper} {rest : List Oper} {o : Oper} {a : Act} {Q : Exit → Act → World → Prop} (hgd : o.guard = none) (x y : Operand) (ho : o.op = .call { callee := .builtin .append, args := #[x, y], argTypes := #[54, 54] }) (v u v' : Value) (w' : World) (hx : a.eval x = v) (hy : a.eval y = u)
    (hr : (Builtin.append_ #[54, 54] o.type #[v, u]).run Tryz.prog w = .ok v' w') (h : wpList Tryz.prog ops Q rest (a.put o.dst v') w') : wpList Tryz.prog ops Q (o :: rest) a w :=
  wpList_plain hgd fun _ hK => by
    unfold Oper.wp
    simp only [runs_app ho hx hy hr]
    exact hK _ _ h
end Go.Proofs.YthndjhocmpelcaaGreat.Rd
