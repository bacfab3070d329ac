/- Chapter 6, the document's own detector hears a claim of itself. Conditions: its parts lie in blocks apart. -/
import Derived.Test.YthndjhocmpelcaaGreatGu
namespace Go.Proofs.YthndjhocmpelcaaGreat.Rd
open Go.RowKit Kit Tri3 Swi
open Go.Proofs.YthndjhocmpelcaaGreat.Hth (cmpI cmpC nodeB mayC)
set_option linter.unusedVariables false
set_option maxRecDepth 100000 in
set_option maxHeartbeats 8000000 in
theorem hearS (w : World) (S : Nat → Prop) (g : Nat) (d : Dt) (i h : Int) (hD : Hid (DetD w S g d)) (hm : Hid (true = mayC d.self i h)) (d' : Dt) (hd : Hid (d' = dRef d i h)) (e0 : Int) (he : Hid (e0 = rfE d.inc i h)) :
    Calls Tryz.prog 39 #[.pointer (some ⟨g, 0, none⟩), .agg #[.int .i64 d.self, .int .i64 i, .int .i64 h]] w fun e w' => e = .returned (.int .i64 e0) ∧ Hid (RTurn w w' S g d') := by
  obtain ⟨gv, gq, go, gc, A, B, n, c, C, X⟩ := hD.out
  have HS := Hid.mk_ X.ok.self
  have HI := Hid.mk_ X.ok.inc
  have NS := Hid.mk_ X.blk
  have al := Hid.mk_ ((Below.refl w.heap.size w).alloc (Nat.le_refl _) (.cells #[.int .i64 d.self, .int .i64 i, .int .i64 h] 30))
  have bx := Hid.mk_ (Rum.Box3.made w d.self i h)
  have X1 := Hid.mk_ (X.below al.out)
  clear X
  obtain ⟨r, hr⟩ : ∃ r, r = rfI d.inc i h := ⟨_, rfl⟩
  have HR := Hid.mk_ hr
  clear hr
  go_enter Tryz.func39, Tryz.ntmps39
  go_upto_region 1 with fail
  generalize hz : w.heap.size = z at *
  have HZ := Hid.mk_ hz
  clear hz
  generalize w.alloc (.cells #[.int .i64 d.self, .int .i64 i, .int .i64 h] 30) = w1 at *
  have c0 : w1.cell? ⟨g, 0, none⟩ = some (.int .i64 d.self) := X1.out.dcs.cell 0
  obtain ⟨x0, x1, x2, _, _, _⟩ := bx.out
  have lt1 := X1.out.dcs.lt
  have lt2 := bx.out.lt
  go_region
  have dr : Below w1.heap.size w1 w1.drew := (Below.refl _ _).drew
  have X1b := Hid.mk_ (X1.out.below dr)
  have bxb := Hid.mk_ (box3k bx.out dr)
  have alb := Hid.mk_ (al.out.drew)
  clear c0 x0 x1 x2 lt1 lt2 X1 bx al dr
  generalize w1.drew = w1b at *
  have c0 : w1b.cell? ⟨g, 0, none⟩ = some (.int .i64 d.self) := X1b.out.dcs.cell 0
  have c1 : w1b.cell? ⟨g, 1, none⟩ = some (.int .i64 d.inc) := X1b.out.dcs.cell 1
  obtain ⟨x0, x1, x2, _, _, _⟩ := bxb.out
  have lt1 := X1b.out.dcs.lt
  have lt2 := bxb.out.lt
  have hss : (d.self == d.self) = true := by simp
  go_upto_region 2 with fail
  refine wp_draws _ (Below.refl _ _) (by kernel_rfl) (by kernel_rfl) (fun hne hN => ?_)
  repeat (go_big_quiet_step (first | (go_at_call 65; with_reducible exact After.calls (refuteR d.self d.inc i h _ HS HI hm r e0 HR he))))
  refine wpQuiet_nil (after_cells ?_)
  intro w2 b2 hc2
  have X2 := Hid.mk_ (X1b.out.below b2)
  have B2 : Hid (Below w.heap.size w w2) := Hid.mk_ (by have h1 := alb.out; rw [← HZ.out] at h1; exact h1.trans (b2.mono h1.size))
  clear c0 c1 x0 x1 x2 lt1 lt2 X1b bxb alb b2 hc2 hne hN hss
  cases hdb : dbt d.inc i h with
  | false =>
    have er : r = d.inc := by rw [HR.out]; unfold rfI; rw [hdb]; rfl
    have ee : e0 = 0 := by rw [he.out]; unfold rfE; rw [hdb]; rfl
    have ed : d' = d := by rw [hd.out]; unfold dRef; rw [hdb]; rfl
    subst er ee ed
    clear HR he hd hdb
    have c1 : w2.cell? ⟨g, 1, none⟩ = some (.int .i64 d'.inc) := X2.out.dcs.cell 1
    go_wp2_with fail
    go_ret
    exact ⟨rfl, Hid.mk_ (RTurn.of_below hD.out B2.out)⟩
  | true =>
    have hle : d.inc ≤ i := by unfold dbt at hdb; simp at hdb; exact hdb.2
    by_cases hmx : i = 1000000
    · have er : r = d.inc := by rw [HR.out]; unfold rfI; rw [hdb, if_pos rfl, if_pos hmx]
      have ee : e0 = 6 := by rw [he.out]; unfold rfE; rw [hdb, if_pos rfl, if_pos hmx]
      have ed : d' = { d with over := true } := by rw [hd.out]; unfold dRef; rw [hdb, if_pos rfl, if_pos hmx]
      subst er ee
      clear HR he hd hdb hmx hle
      have c9 : w2.cell? ⟨g, 5, none⟩ = some (.bool d.over) := X2.out.dcs.cell 5
      have f9 : w2.frozen? ⟨g, 5, none⟩ = false := X2.out.dcs.fr 5
      have HED := Hid.mk_ ed
      clear ed
      go_wp2_with fail
      go_ret
      have ws := Rum.Wr.set w2 g 5 (.bool true)
      refine ⟨rfl, Hid.mk_ ?_⟩
      rw [HED.out]
      have x3 := X2.out.turnD ws (X2.out.dcs.set 5 (.bool true) { d with over := true } rfl) ⟨X2.out.ok.self, X2.out.ok.inc, X2.out.ok.now, X2.out.ok.seq, X2.out.ok.asked⟩ ⟨rfl, rfl, rfl, rfl, rfl, rfl⟩
      exact ⟨S, ⟨gv, gq, go, gc, A, B, n, c, C, x3⟩, fun k hk => .inl hk, (Rum.Wr.of_below B2.out S).then_ ws (fun i hi => .inl (by rw [hi]; exact X2.out.sg))⟩
    · have er : r = i + 1 := by rw [HR.out]; unfold rfI; rw [hdb, if_pos rfl, if_neg hmx]
      have ee : e0 = 0 := by rw [he.out]; unfold rfE; rw [hdb, if_pos rfl, if_neg hmx]
      have ed : d' = dSays { d with inc := i + 1 } 1 := by rw [hd.out]; unfold dRef; rw [hdb, if_pos rfl, if_neg hmx]
      have hib := may_bounds hm.out
      have hlt : d.inc < i + 1 := by omega
      have hlt2 : decide (d.inc < i + 1) = true := decide_eq_true hlt
      have OK1 : Hid ({ d with inc := i + 1 } : Dt).Ok := Hid.mk_ ⟨X2.out.ok.self, ⟨by show (0 : Int) ≤ i + 1; omega, by show i + 1 ≤ 1000000; omega⟩, X2.out.ok.now, X2.out.ok.seq, X2.out.ok.asked⟩
      obtain ⟨j, hj⟩ : ∃ j, j = i + 1 := ⟨_, rfl⟩
      rw [← hj] at er ed hlt hlt2 OK1
      subst er ee
      have HED := Hid.mk_ ed
      clear HR he hd hdb hmx hle hj hib ed
      have c1 : w2.cell? ⟨g, 1, none⟩ = some (.int .i64 d.inc) := X2.out.dcs.cell 1
      have f1 : w2.frozen? ⟨g, 1, none⟩ = false := X2.out.dcs.fr 1
      go_upto_region 8 with fail
      have ws := Rum.Wr.set w2 g 1 (.int .i64 r)
      have X3 := Hid.mk_ (X2.out.turnD ws (X2.out.dcs.set 1 (.int .i64 r) { d with inc := r } rfl) OK1.out ⟨rfl, rfl, rfl, rfl, rfl, rfl⟩)
      have R3 : Hid (Rum.Wr w (w2.setCell ⟨g, 1, none⟩ (.int .i64 r)) S) := Hid.mk_ ((Rum.Wr.of_below B2.out S).then_ ws (fun i hi => .inl (by rw [hi]; exact X2.out.sg)))
      clear c1 f1 X2 B2 ws
      generalize w2.setCell ⟨g, 1, none⟩ (.int .i64 r) = w3 at *
      have c0 : w3.cell? ⟨g, 0, none⟩ = some (.int .i64 d.self) := X3.out.dcs.cell 0
      go_upto_region 9 with fail
      have bx := Hid.mk_ (Rum.Box3.made w3 d.self r 1)
      have al := Hid.mk_ ((Below.refl w3.heap.size w3).alloc (Nat.le_refl _) (.cells #[.int .i64 d.self, .int .i64 r, .int .i64 1] 30))
      have X4 := Hid.mk_ (X3.out.below al.out)
      have N3 := Hid.mk_ X3.out.blk
      have R4 : Hid (Rum.Wr w (w3.alloc (.cells #[.int .i64 d.self, .int .i64 r, .int .i64 1] 30)) S) := Hid.mk_ (R3.out.then_ (Rum.Wr.of_below al.out (fun _ => False)) (fun _ h => h.elim))
      clear c0 X3 R3 al
      generalize w3.alloc (.cells #[.int .i64 d.self, .int .i64 r, .int .i64 1] 30) = w4 at *
      obtain ⟨z2, hz2⟩ : ∃ z2, z2 = w3.heap.size := ⟨_, rfl⟩
      rw [← hz2] at bx ⊢
      have HZ2 := Hid.mk_ hz2
      clear hz2
      have NZ : Hid (∀ k, S k → k < z2) := Hid.mk_ (fun k hk => by rw [HZ2.out]; exact N3.out k hk)
      have c2 : w4.cell? ⟨g, 7, none⟩ = some (.pointer (some ⟨gv, 0, none⟩)) := X4.out.dcs.cell 7
      obtain ⟨x0, x1, x2, _, _, _⟩ := bx.out
      have NG : Hid (¬ z2 = gv) := Hid.mk_ (fun e => by have := NZ.out gv X4.out.sv; omega)
      go_region_held3 (fun w' => w'.cell? ⟨g, 7, none⟩ = some (.pointer (some ⟨gv, 0, none⟩)) ∧ w'.cell? ⟨z2, 0, none⟩ = some (.int .i64 d.self) ∧ w'.cell? ⟨z2, 1, none⟩ = some (.int .i64 r) ∧ w'.cell? ⟨z2, 2, none⟩ = some (.int .i64 1)) (first | exact ⟨by assumption, by assumption, by assumption, by assumption⟩ | go_keep) (first
        | (go_at_call 34; refine (Rvw.hear0 d.p d.q gv d.self r 1 w4.drew (X4.out.below (Below.refl _ _).drew).vw).mono ?_; rintro e w5 ⟨rfl, hv5, hg5⟩; have r5 := Rum.Wr.of_gb hg5; have s2 := r5.cell (by exact c2) X4.out.ne.1; have s3 := r5.cell (by exact x0) NG.out; have s4 := r5.cell (by exact x1) NG.out; have s5 := r5.cell (by exact x2) NG.out)
        | fail)
      have dr : Below w4.heap.size w4 w4.drew := (Below.refl _ _).drew
      have X5 := Hid.mk_ ((X4.out.below dr).heard ⟨d.self, r, 1⟩ hv5 hg5)
      have R5 : Hid (Rum.Wr w w5 S) := Hid.mk_ ((R4.out.then_ (Rum.Wr.of_below dr (fun _ => False)) (fun _ h => h.elim)).then_ r5 (fun i hi => .inl (by rw [hi]; exact X4.out.sv)))
      have BQ5 := Hid.mk_ (box3w (box3k bx.out dr) r5 NG.out)
      clear c2 x0 x1 x2 s2 s3 s4 s5 X4 bx R4 hv5 hg5 r5 dr
      obtain ⟨x0, x1, x2, _, _, _⟩ := BQ5.out
      have c3 : w5.cell? ⟨g, 8, none⟩ = some (.pointer (some ⟨gq, 0, none⟩)) := X5.out.dcs.cell 8
      obtain ⟨R0, qR, hp0⟩ := X5.out.qu
      have QD : Hid (Rum.RQ w5 gq 3 A R0) := Hid.mk_ qR
      have HP0 : Hid (R0.Perm d.L) := Hid.mk_ hp0
      have HST : Hid (Rum.St d.L) := Hid.mk_ X5.out.st
      have HLT : Hid (Rum.Lt 3 d.L) := Hid.mk_ X5.out.lt
      clear qR hp0
      obtain ⟨M, hM⟩ : ∃ M, M = Rum.putQ ⟨d.self, r, 1⟩ d.L := ⟨_, rfl⟩
      have HM := Hid.mk_ hM
      clear hM
      have NQ : Hid (¬ Rum.Its gq A z2) := Hid.mk_ (fun e => by have := NZ.out z2 (X5.out.sq z2 e); omega)
      go_upto_region 10 with fail
      go_region_held3 (fun w' => w'.cell? ⟨g, 8, none⟩ = some (.pointer (some ⟨gq, 0, none⟩)) ∧ w'.cell? ⟨z2, 0, none⟩ = some (.int .i64 d.self) ∧ w'.cell? ⟨z2, 1, none⟩ = some (.int .i64 r) ∧ w'.cell? ⟨z2, 2, none⟩ = some (.int .i64 1)) (first | exact ⟨by assumption, by assumption, by assumption, by assumption⟩ | go_keep) (first
        | (go_at_call 41; refine (Rum.rput w5.drew gq 3 A R0 d.L ⟨d.self, r, 1⟩ (by exact Hid.mk_ (QD.out.below (Below.refl _ _).drew)) HP0 HST _ (Hid.mk_ rfl) M HM).mono ?_; rintro e w6 ⟨rfl, R6', p6, t6⟩; have r6 := rturnWr t6.out; have s2 := r6.cell (by exact c3) X5.out.ne.2; have s3 := r6.cell (by exact x0) NQ.out; have s4 := r6.cell (by exact x1) NQ.out; have s5 := r6.cell (by exact x2) NQ.out)
        | fail)
      have dr : Below w5.heap.size w5 w5.drew := (Below.refl _ _).drew
      obtain ⟨A6, S6, x6, hS6, rS6⟩ := (X5.out.below dr).turnQ t6.out p6.out (by rw [HM.out]; exact HST.out.putQ _) (by rw [HM.out]; exact HLT.out.putQ (by decide) _)
      go_wp2_with fail
      go_ret
      refine ⟨rfl, Hid.mk_ ?_⟩
      rw [HED.out]
      rw [HM.out] at x6
      exact ⟨S6, ⟨gv, gq, go, gc, A6, B, n, c, C, x6⟩, fun k hk => (hS6 k hk).elim .inl (fun h => .inr (by have := R5.out.size; have := dr.size; omega)), (R5.out.then_ (Rum.Wr.of_below dr (fun _ => False)) (fun _ h => h.elim)).then_ rS6 (fun i hi => .inl hi)⟩
end Go.Proofs.YthndjhocmpelcaaGreat.Rd
