/- SwimAnswers: the walk of the law: a ping, a request, an ack of another one's are answered; no condition. -/
import Derived.Test.YthndjhocmpelcaaLb
namespace Go.Proofs.Ythndjhocmpelcaa.WSwimAnswers
open Go.RowKit Kit Tri3 Swi
set_option linter.unusedVariables false
theorem meets_self (f : Int) : (dMeets (dNew 0 4) f []).self = 0 ∧ (dMeets (dNew 0 4) f []).left = false ∧ (dMeets (dNew 0 4) f []).asked = -1 := ⟨(Kp.meets _ f []).self, (Kp.meets _ f []).left, (Kp.meets _ f []).asked⟩
theorem dAns_same (d : Dt) (k s fo : Int) (h : d.asked = -1) : dAns d k s fo = d := by
  unfold dAns
  rw [if_neg (fun e => e.2.2.2 h)]
theorem hand (k f s fo ab : Int) (hf : 1 ≤ f ∧ f ≤ 7) (x : An) (hx : an (dMeets (dNew 0 4) f []) k f s fo ab = x) :
    (x.k = 0 → oHandle (dNew 0 4) k f 0 s fo ab [] = []) ∧ (x.k ≠ 0 → ∃ cs, oHandle (dNew 0 4) k f 0 s fo ab [] = [⟨x.k, 0, x.t, x.s, x.fo, 0, cs⟩]) := by
  obtain ⟨h1, h2, h3⟩ := meets_self f
  have hn : ¬ ((0 : Int) ≠ (dNew 0 4).self ∨ Hth.nodeB f = false ∨ f = (dNew 0 4).self) := by
    rintro (h | h | h)
    · exact h rfl
    · unfold Hth.nodeB at h; simp at h; omega
    · rw [show (dNew 0 4).self = 0 from rfl] at h; omega
  have h4 : dAns (dMeets (dNew 0 4) f []) k s fo = dMeets (dNew 0 4) f [] := dAns_same _ _ _ _ h3
  unfold oHandle
  rw [if_neg hn, hx, h4, h2, h1]
  refine ⟨fun h => by rw [if_pos (.inl h)], fun h => ?_⟩
  rw [if_neg (by rintro (h0 | h0); exact h h0; cases h0)]
  exact ⟨_, rfl⟩
theorem oNo (d : Dt) (k f s fo ab : Int) (t : Int) (ht : t ≠ d.self) : oHandle d k f t s fo ab [] = [] := by unfold oHandle; rw [if_pos (.inl ht)]
theorem clat_nil (w : World) : Hid (ClAt w none []) := Hid.mk_ (fun i c h => by simp at h)
theorem noS (S : Nat → Prop) : Hid (∀ b off, (none : Option Addr) = some ⟨b, off, none⟩ → 0 < 0 → ¬ S b) := Hid.mk_ (fun b off h => by cases h)
theorem wr_below {w w1 w2 : World} {S : Nat → Prop} {g : Nat} {d : Dt} {T : Nat → Prop} (hb : Below w.heap.size w w1) (hS : Hid (∀ k, S k → w.heap.size ≤ k)) (t : DTurnX w1 w2 S g d T) : Below w.heap.size w w2 := by
  obtain ⟨S2, _, _, r, _⟩ := t
  exact hb.trans (r.below hb.size (fun k hk => hS.out k hk))
theorem dh_self (k f t s fo ab : Int) (ls : List Cl) : (dHandle (dNew 0 4) k f t s fo ab ls).self = 0 := by
  have h1 : (dAns (dMeets (dNew 0 4) f ls) k s fo).self = 0 := by rw [(ans_q _ k s fo).2.2.2.2.1, (Kp.meets _ f ls).self]; rfl
  unfold dHandle
  split
  · rfl
  · split
    · exact h1
    · exact h1
set_option maxRecDepth 100000 in
set_option maxHeartbeats 8000000 in
theorem law1 (w : World) (a0 a1 a2 a3 a4 f ab y : Int) (ey : wrap64 ((IntKind.u64.wrap a0).tmod 7) = y) (ef : wrap64 (1 + y) = f) (hf : Hid (1 ≤ f ∧ f ≤ 7)) (ez : wrap64 ((IntKind.u64.wrap a1).tmod 8) = ab) (ha : Hid (0 ≤ ab ∧ ab < 8)) (ek : wrap64 ((IntKind.u64.wrap a4).tmod 3) = 0) : Calls Try.prog 3 #[.int .i64 a0, .int .i64 a1, .int .i64 a2, .int .i64 a3, .int .i64 a4] w fun e w' => e = .returned (.bool true) ∧ Below w.heap.size w w' := by
  have h00 : Hid ((0 : Int) ≤ 0 ∧ (0 : Int) ≤ 7) := Hid.mk_ (by decide)
  have h04 : Hid ((0 : Int) ≤ 4 ∧ (4 : Int) ≤ 1000000) := Hid.mk_ (by decide)
  have V0 : Hid (Vok (dNew 0 4)) := Hid.mk_ (Vok.new 0 4)
  have nb : Hid (0 = ([] : List Cl).length) := Hid.mk_ rfl
  obtain ⟨cs, hcs⟩ := (hand 1 f a2 ab ab hf.out ⟨2, f, a2, ab⟩ (by unfold an; rw [if_pos rfl])).2 (by show (2 : Int) ≠ 0; decide)
  have HM : Hid ([⟨2, 0, f, a2, ab, 0, cs⟩] = oHandle (dNew 0 4) 1 f 0 a2 ab ab []) := Hid.mk_ hcs.symm
  clear hcs
  go_enter Try.func3, Try.ntmps3
  go_upto_region 4 with (go_at_call 9; refine (newD _ 0 4 h00 h04).mono ?_; rintro e w1 ⟨g, S, rfl, D1, HS, b1⟩)
  have B1 : Hid (Below w.heap.size w w1) := Hid.mk_ (((Below.refl w.heap.size w).alloc (Nat.le_refl _) _).trans (b1.mono (by simp)))
  have HS1 : Hid (∀ k, S k → w.heap.size ≤ k) := Hid.mk_ (fun k hk => by have := HS.out k hk; simp at this; omega)
  clear b1 HS
  go_upto_region 5 with (go_at_call 10; refine (handle1 w1 S g (dNew 0 4) (msg 1 f 0 a2 ab ab (.slice none 0 0)) 1 f 0 a2 ab ab none 0 0 [] D1 V0 (Hid.mk_ (MsgC.of_msg _ _ _ _ _ _ _ _ _)) (clat_nil w1) (noS S) nb (by decide) (by decide) _ (Hid.mk_ rfl) [⟨2, 0, f, a2, ab, 0, cs⟩] HM).mono ?_; rintro e w2 ⟨v, T, rfl, o2, t2⟩)
  have B2 := Hid.mk_ (wr_below B1.out HS1 t2.out)
  obtain ⟨A, c, rfl, _, _⟩ := o2.out.form
  obtain ⟨b, P, np, cp, rfl, hT, hb, M, C, hP, _⟩ := o2.out.mat 0 _ rfl
  have x0 : w2.cell? ⟨b, 0, none⟩ = some (.int .i64 2) := M.c0
  have x2 : w2.cell? ⟨b, 2, none⟩ = some (.int .i64 f) := M.c2
  have x3 : w2.cell? ⟨b, 3, none⟩ = some (.int .i64 a2) := M.c3
  have x4 : w2.cell? ⟨b, 4, none⟩ = some (.int .i64 ab) := M.c4
  clear M C hP hb hT
  go_wp2_with (go_at_call 11; refine (awake _).mono ?_; rintro e w3 ⟨rfl, b3⟩)
  go_ret
  exact ⟨rfl, B2.out.trans (b3.mono B2.out.size)⟩
set_option maxRecDepth 100000 in
set_option maxHeartbeats 8000000 in
theorem law2 (w : World) (a0 a1 a2 a3 a4 f ab y : Int) (ey : wrap64 ((IntKind.u64.wrap a0).tmod 7) = y) (ef : wrap64 (1 + y) = f) (hf : Hid (1 ≤ f ∧ f ≤ 7)) (ez : wrap64 ((IntKind.u64.wrap a1).tmod 8) = ab) (ha : Hid (0 ≤ ab ∧ ab < 8)) (ek : wrap64 ((IntKind.u64.wrap a4).tmod 3) = 1) (hz : ab ≠ 0) : Calls Try.prog 3 #[.int .i64 a0, .int .i64 a1, .int .i64 a2, .int .i64 a3, .int .i64 a4] w fun e w' => e = .returned (.bool true) ∧ Below w.heap.size w w' := by
  have h00 : Hid ((0 : Int) ≤ 0 ∧ (0 : Int) ≤ 7) := Hid.mk_ (by decide)
  have h04 : Hid ((0 : Int) ≤ 4 ∧ (4 : Int) ≤ 1000000) := Hid.mk_ (by decide)
  have V0 : Hid (Vok (dNew 0 4)) := Hid.mk_ (Vok.new 0 4)
  have nb : Hid (0 = ([] : List Cl).length) := Hid.mk_ rfl
  obtain ⟨cs, hcs⟩ := (hand 2 f a2 ab ab hf.out ⟨2, ab, a2, ab⟩ (by unfold an; rw [if_neg (by decide), if_pos rfl, if_neg (by rw [(meets_self f).1]; exact hz), if_pos (by unfold Hth.nodeB; simp; have := ha.out; omega)])).2 (by show (2 : Int) ≠ 0; decide)
  have HM : Hid ([⟨2, 0, ab, a2, ab, 0, cs⟩] = oHandle (dNew 0 4) 2 f 0 a2 ab ab []) := Hid.mk_ hcs.symm
  clear hcs
  have hzb : (ab != 0) = true := by simp [hz]
  clear hz
  go_enter Try.func3, Try.ntmps3
  go_upto_region 4 with (go_at_call 9; refine (newD _ 0 4 h00 h04).mono ?_; rintro e w1 ⟨g, S, rfl, D1, HS, b1⟩)
  have B1 : Hid (Below w.heap.size w w1) := Hid.mk_ (((Below.refl w.heap.size w).alloc (Nat.le_refl _) _).trans (b1.mono (by simp)))
  have HS1 : Hid (∀ k, S k → w.heap.size ≤ k) := Hid.mk_ (fun k hk => by have := HS.out k hk; simp at this; omega)
  clear b1 HS
  go_upto_region 5 with (go_at_call 10; refine (handle1 w1 S g (dNew 0 4) (msg 2 f 0 a2 ab ab (.slice none 0 0)) 2 f 0 a2 ab ab none 0 0 [] D1 V0 (Hid.mk_ (MsgC.of_msg _ _ _ _ _ _ _ _ _)) (clat_nil w1) (noS S) nb (by decide) (by decide) _ (Hid.mk_ rfl) [⟨2, 0, ab, a2, ab, 0, cs⟩] HM).mono ?_; rintro e w2 ⟨v, T, rfl, o2, t2⟩)
  have B2 := Hid.mk_ (wr_below B1.out HS1 t2.out)
  obtain ⟨A, c, rfl, _, _⟩ := o2.out.form
  obtain ⟨b, P, np, cp, rfl, hT, hb, M, C, hP, _⟩ := o2.out.mat 0 _ rfl
  have x0 : w2.cell? ⟨b, 0, none⟩ = some (.int .i64 2) := M.c0
  have x2 : w2.cell? ⟨b, 2, none⟩ = some (.int .i64 ab) := M.c2
  have x3 : w2.cell? ⟨b, 3, none⟩ = some (.int .i64 a2) := M.c3
  have x4 : w2.cell? ⟨b, 4, none⟩ = some (.int .i64 ab) := M.c4
  clear M C hP hb hT
  go_wp2_with (go_at_call 11; refine (awake _).mono ?_; rintro e w3 ⟨rfl, b3⟩)
  go_ret
  exact ⟨rfl, B2.out.trans (b3.mono B2.out.size)⟩
set_option maxRecDepth 100000 in
set_option maxHeartbeats 8000000 in
theorem law3 (w : World) (a0 a1 a2 a3 a4 f ab y : Int) (ey : wrap64 ((IntKind.u64.wrap a0).tmod 7) = y) (ef : wrap64 (1 + y) = f) (hf : Hid (1 ≤ f ∧ f ≤ 7)) (ez : wrap64 ((IntKind.u64.wrap a1).tmod 8) = ab) (ha : Hid (0 ≤ ab ∧ ab < 8)) (ek : wrap64 ((IntKind.u64.wrap a4).tmod 3) = 2) (hz : ab ≠ 0) : Calls Try.prog 3 #[.int .i64 a0, .int .i64 a1, .int .i64 a2, .int .i64 a3, .int .i64 a4] w fun e w' => e = .returned (.bool true) ∧ Below w.heap.size w w' := by
  have h00 : Hid ((0 : Int) ≤ 0 ∧ (0 : Int) ≤ 7) := Hid.mk_ (by decide)
  have h04 : Hid ((0 : Int) ≤ 4 ∧ (4 : Int) ≤ 1000000) := Hid.mk_ (by decide)
  have V0 : Hid (Vok (dNew 0 4)) := Hid.mk_ (Vok.new 0 4)
  have nb : Hid (0 = ([] : List Cl).length) := Hid.mk_ rfl
  obtain ⟨cs, hcs⟩ := (hand 3 f a2 ab ab hf.out ⟨1, ab, a2, f⟩ (by unfold an; rw [if_neg (by decide), if_neg (by decide), if_pos ⟨rfl, by unfold Hth.nodeB; simp; have := ha.out; omega, by rw [(meets_self f).1]; exact hz⟩])).2 (by show (1 : Int) ≠ 0; decide)
  have HM : Hid ([⟨1, 0, ab, a2, f, 0, cs⟩] = oHandle (dNew 0 4) 3 f 0 a2 ab ab []) := Hid.mk_ hcs.symm
  clear hcs
  have hzb : (ab != 0) = true := by simp [hz]
  clear hz
  go_enter Try.func3, Try.ntmps3
  go_upto_region 4 with (go_at_call 9; refine (newD _ 0 4 h00 h04).mono ?_; rintro e w1 ⟨g, S, rfl, D1, HS, b1⟩)
  have B1 : Hid (Below w.heap.size w w1) := Hid.mk_ (((Below.refl w.heap.size w).alloc (Nat.le_refl _) _).trans (b1.mono (by simp)))
  have HS1 : Hid (∀ k, S k → w.heap.size ≤ k) := Hid.mk_ (fun k hk => by have := HS.out k hk; simp at this; omega)
  clear b1 HS
  go_upto_region 5 with (go_at_call 10; refine (handle1 w1 S g (dNew 0 4) (msg 3 f 0 a2 ab ab (.slice none 0 0)) 3 f 0 a2 ab ab none 0 0 [] D1 V0 (Hid.mk_ (MsgC.of_msg _ _ _ _ _ _ _ _ _)) (clat_nil w1) (noS S) nb (by decide) (by decide) _ (Hid.mk_ rfl) [⟨1, 0, ab, a2, f, 0, cs⟩] HM).mono ?_; rintro e w2 ⟨v, T, rfl, o2, t2⟩)
  have B2 := Hid.mk_ (wr_below B1.out HS1 t2.out)
  obtain ⟨A, c, rfl, _, _⟩ := o2.out.form
  obtain ⟨b, P, np, cp, rfl, hT, hb, M, C, hP, _⟩ := o2.out.mat 0 _ rfl
  have x0 : w2.cell? ⟨b, 0, none⟩ = some (.int .i64 1) := M.c0
  have x2 : w2.cell? ⟨b, 2, none⟩ = some (.int .i64 ab) := M.c2
  have x3 : w2.cell? ⟨b, 3, none⟩ = some (.int .i64 a2) := M.c3
  have x4 : w2.cell? ⟨b, 4, none⟩ = some (.int .i64 f) := M.c4
  clear M C hP hb hT
  go_wp2_with (go_at_call 11; refine (awake _).mono ?_; rintro e w3 ⟨rfl, b3⟩)
  go_ret
  exact ⟨rfl, B2.out.trans (b3.mono B2.out.size)⟩
set_option maxRecDepth 100000 in
set_option maxHeartbeats 8000000 in
theorem law2n (w : World) (a0 a1 a2 a3 a4 f ab y : Int) (ey : wrap64 ((IntKind.u64.wrap a0).tmod 7) = y) (ef : wrap64 (1 + y) = f) (hf : Hid (1 ≤ f ∧ f ≤ 7)) (ez : wrap64 ((IntKind.u64.wrap a1).tmod 8) = ab) (ha : Hid (0 ≤ ab ∧ ab < 8)) (ek : wrap64 ((IntKind.u64.wrap a4).tmod 3) = 1) (hz : ab = 0) : Calls Try.prog 3 #[.int .i64 a0, .int .i64 a1, .int .i64 a2, .int .i64 a3, .int .i64 a4] w fun e w' => e = .returned (.bool true) ∧ Below w.heap.size w w' := by
  have h00 : Hid ((0 : Int) ≤ 0 ∧ (0 : Int) ≤ 7) := Hid.mk_ (by decide)
  have h04 : Hid ((0 : Int) ≤ 4 ∧ (4 : Int) ≤ 1000000) := Hid.mk_ (by decide)
  have V0 : Hid (Vok (dNew 0 4)) := Hid.mk_ (Vok.new 0 4)
  have nb : Hid (0 = ([] : List Cl).length) := Hid.mk_ rfl
  have HM : Hid ([] = oHandle (dNew 0 4) 2 f 0 a2 ab ab []) := Hid.mk_ ((hand 2 f a2 ab ab hf.out ⟨0, 0, 0, 0⟩ (by unfold an; rw [if_neg (by decide), if_pos rfl, if_pos (by rw [(meets_self f).1]; exact hz)])).1 rfl).symm
  have hzb : (ab != 0) = false := by simp [hz]
  clear hz
  go_enter Try.func3, Try.ntmps3
  go_upto_region 4 with (go_at_call 9; refine (newD _ 0 4 h00 h04).mono ?_; rintro e w1 ⟨g, S, rfl, D1, HS, b1⟩)
  have B1 : Hid (Below w.heap.size w w1) := Hid.mk_ (((Below.refl w.heap.size w).alloc (Nat.le_refl _) _).trans (b1.mono (by simp)))
  have HS1 : Hid (∀ k, S k → w.heap.size ≤ k) := Hid.mk_ (fun k hk => by have := HS.out k hk; simp at this; omega)
  clear b1 HS
  go_upto_region 5 with (go_at_call 10; refine (handle1 w1 S g (dNew 0 4) (msg 2 f 0 a2 ab ab (.slice none 0 0)) 2 f 0 a2 ab ab none 0 0 [] D1 V0 (Hid.mk_ (MsgC.of_msg _ _ _ _ _ _ _ _ _)) (clat_nil w1) (noS S) nb (by decide) (by decide) _ (Hid.mk_ rfl) [] HM).mono ?_; rintro e w2 ⟨v, T, rfl, o2, t2⟩)
  have B2 := Hid.mk_ (wr_below B1.out HS1 t2.out)
  obtain ⟨A, c, e7, _, _⟩ := o2.out.form
  have e8 : v = .slice A 0 c := e7
  subst e8
  clear e7
  obtain ⟨S2, D2, k2, r2, _⟩ := t2.out
  have HD2 := Hid.mk_ D2
  have HS2 : Hid (∀ k, S2 k → w.heap.size ≤ k) := Hid.mk_ (fun k hk => (k2 k hk).elim (HS1.out k) (fun h => by have := B1.out.size; omega))
  clear D2 k2 r2
  obtain ⟨d2, hd2⟩ : ∃ d2, d2 = dHandle (dNew 0 4) 2 f 0 a2 ab ab [] := ⟨_, rfl⟩
  have V2 : Hid (Vok d2) := Hid.mk_ (by rw [hd2]; exact V0.out.handle _ _ _ _ _ _ _)
  have HM2 : Hid ([] = oHandle d2 2 f 1 0 0 0 []) := Hid.mk_ (oNo _ _ _ _ _ _ _ (by rw [hd2, dh_self]; decide)).symm
  rw [← hd2] at HD2
  clear hd2
  go_wp2_with (first
    | (go_at_call 10; refine (handle1 w2 S2 g d2 (msg 2 f 1 0 0 0 (.slice none 0 0)) 2 f 1 0 0 0 none 0 0 [] HD2 V2 (Hid.mk_ (MsgC.of_msg _ _ _ _ _ _ _ _ _)) (clat_nil w2) (noS S2) nb (by decide) (by decide) _ (Hid.mk_ rfl) [] HM2).mono ?_; rintro e w3 ⟨v3, T3, rfl, o3, t3⟩; obtain ⟨A3, c3, e3, _, _⟩ := o3.out.form; have e9 : v3 = .slice A3 0 c3 := e3; subst e9)
    | (go_at_call 11; refine (awake _).mono ?_; rintro e w4 ⟨rfl, b4⟩))
  go_ret
  have B3 := wr_below B2.out HS2 t3.out
  exact ⟨rfl, B3.trans (b4.mono B3.size)⟩
set_option maxRecDepth 100000 in
set_option maxHeartbeats 8000000 in
theorem law3n (w : World) (a0 a1 a2 a3 a4 f ab y : Int) (ey : wrap64 ((IntKind.u64.wrap a0).tmod 7) = y) (ef : wrap64 (1 + y) = f) (hf : Hid (1 ≤ f ∧ f ≤ 7)) (ez : wrap64 ((IntKind.u64.wrap a1).tmod 8) = ab) (ha : Hid (0 ≤ ab ∧ ab < 8)) (ek : wrap64 ((IntKind.u64.wrap a4).tmod 3) = 2) (hz : ab = 0) : Calls Try.prog 3 #[.int .i64 a0, .int .i64 a1, .int .i64 a2, .int .i64 a3, .int .i64 a4] w fun e w' => e = .returned (.bool true) ∧ Below w.heap.size w w' := by
  have h00 : Hid ((0 : Int) ≤ 0 ∧ (0 : Int) ≤ 7) := Hid.mk_ (by decide)
  have h04 : Hid ((0 : Int) ≤ 4 ∧ (4 : Int) ≤ 1000000) := Hid.mk_ (by decide)
  have V0 : Hid (Vok (dNew 0 4)) := Hid.mk_ (Vok.new 0 4)
  have nb : Hid (0 = ([] : List Cl).length) := Hid.mk_ rfl
  have HM : Hid ([] = oHandle (dNew 0 4) 3 f 0 a2 ab ab []) := Hid.mk_ ((hand 3 f a2 ab ab hf.out ⟨0, 0, 0, 0⟩ (by unfold an; rw [if_neg (by decide), if_neg (by decide), if_neg (fun h => h.2.2 (by rw [(meets_self f).1]; exact hz))])).1 rfl).symm
  have hzb : (ab != 0) = false := by simp [hz]
  clear hz
  go_enter Try.func3, Try.ntmps3
  go_upto_region 4 with (go_at_call 9; refine (newD _ 0 4 h00 h04).mono ?_; rintro e w1 ⟨g, S, rfl, D1, HS, b1⟩)
  have B1 : Hid (Below w.heap.size w w1) := Hid.mk_ (((Below.refl w.heap.size w).alloc (Nat.le_refl _) _).trans (b1.mono (by simp)))
  have HS1 : Hid (∀ k, S k → w.heap.size ≤ k) := Hid.mk_ (fun k hk => by have := HS.out k hk; simp at this; omega)
  clear b1 HS
  go_upto_region 5 with (go_at_call 10; refine (handle1 w1 S g (dNew 0 4) (msg 3 f 0 a2 ab ab (.slice none 0 0)) 3 f 0 a2 ab ab none 0 0 [] D1 V0 (Hid.mk_ (MsgC.of_msg _ _ _ _ _ _ _ _ _)) (clat_nil w1) (noS S) nb (by decide) (by decide) _ (Hid.mk_ rfl) [] HM).mono ?_; rintro e w2 ⟨v, T, rfl, o2, t2⟩)
  have B2 := Hid.mk_ (wr_below B1.out HS1 t2.out)
  obtain ⟨A, c, e7, _, _⟩ := o2.out.form
  have e8 : v = .slice A 0 c := e7
  subst e8
  clear e7
  obtain ⟨S2, D2, k2, r2, _⟩ := t2.out
  have HD2 := Hid.mk_ D2
  have HS2 : Hid (∀ k, S2 k → w.heap.size ≤ k) := Hid.mk_ (fun k hk => (k2 k hk).elim (HS1.out k) (fun h => by have := B1.out.size; omega))
  clear D2 k2 r2
  obtain ⟨d2, hd2⟩ : ∃ d2, d2 = dHandle (dNew 0 4) 3 f 0 a2 ab ab [] := ⟨_, rfl⟩
  have V2 : Hid (Vok d2) := Hid.mk_ (by rw [hd2]; exact V0.out.handle _ _ _ _ _ _ _)
  have HM2 : Hid ([] = oHandle d2 3 f 1 0 0 0 []) := Hid.mk_ (oNo _ _ _ _ _ _ _ (by rw [hd2, dh_self]; decide)).symm
  rw [← hd2] at HD2
  clear hd2
  go_wp2_with (first
    | (go_at_call 10; refine (handle1 w2 S2 g d2 (msg 3 f 1 0 0 0 (.slice none 0 0)) 3 f 1 0 0 0 none 0 0 [] HD2 V2 (Hid.mk_ (MsgC.of_msg _ _ _ _ _ _ _ _ _)) (clat_nil w2) (noS S2) nb (by decide) (by decide) _ (Hid.mk_ rfl) [] HM2).mono ?_; rintro e w3 ⟨v3, T3, rfl, o3, t3⟩; obtain ⟨A3, c3, e3, _, _⟩ := o3.out.form; have e9 : v3 = .slice A3 0 c3 := e3; subst e9)
    | (go_at_call 11; refine (awake _).mono ?_; rintro e w4 ⟨rfl, b4⟩))
  go_ret
  have B3 := wr_below B2.out HS2 t3.out
  exact ⟨rfl, B3.trans (b4.mono B3.size)⟩
theorem law (w : World) (a0 a1 a2 a3 a4 : Int) : Calls Try.prog 3 #[.int .i64 a0, .int .i64 a1, .int .i64 a2, .int .i64 a3, .int .i64 a4] w fun e w' => e = .returned (.bool true) ∧ Below w.heap.size w w' := by
  obtain ⟨y, y0, y1, ey⟩ := modm a0 7 (by omega) (by omega)
  obtain ⟨ab, z0, z1, ez⟩ := modm a1 8 (by omega) (by omega)
  obtain ⟨kk, k0, k1, ek⟩ := modm a4 3 (by omega) (by omega)
  obtain ⟨f, hf, ef⟩ : ∃ f, (1 ≤ f ∧ f ≤ 7) ∧ wrap64 (1 + y) = f := ⟨1 + y, by omega, by unfold wrap64; omega⟩
  have : kk = 0 ∨ kk = 1 ∨ kk = 2 := by clear ey ez ek ef; omega
  rcases this with rfl | rfl | rfl
  · exact law1 w a0 a1 a2 a3 a4 f ab y ey ef (Hid.mk_ hf) ez (Hid.mk_ ⟨z0, z1⟩) ek
  · by_cases hz : ab = 0
    · exact law2n w a0 a1 a2 a3 a4 f ab y ey ef (Hid.mk_ hf) ez (Hid.mk_ ⟨z0, z1⟩) ek hz
    · exact law2 w a0 a1 a2 a3 a4 f ab y ey ef (Hid.mk_ hf) ez (Hid.mk_ ⟨z0, z1⟩) ek hz
  · by_cases hz : ab = 0
    · exact law3n w a0 a1 a2 a3 a4 f ab y ey ef (Hid.mk_ hf) ez (Hid.mk_ ⟨z0, z1⟩) ek hz
    · exact law3 w a0 a1 a2 a3 a4 f ab y ey ef (Hid.mk_ hf) ez (Hid.mk_ ⟨z0, z1⟩) ek hz
theorem walk (w : World) (a0 : Int) (h0 : (Lit.int .i64 a0).wf = true) (a1 : Int) (h1 : (Lit.int .i64 a1).wf = true) (a2 : Int) (h2 : (Lit.int .i64 a2).wf = true) (a3 : Int) (h3 : (Lit.int .i64 a3).wf = true) (a4 : Int) (h4 : (Lit.int .i64 a4).wf = true) :
    Calls Try.prog 3 #[.int .i64 a0, .int .i64 a1, .int .i64 a2, .int .i64 a3, .int .i64 a4] w fun e w' => e = .returned (.bool true) ∧ Below w.heap.size w w' := law w a0 a1 a2 a3 a4
end Go.Proofs.Ythndjhocmpelcaa.WSwimAnswers
