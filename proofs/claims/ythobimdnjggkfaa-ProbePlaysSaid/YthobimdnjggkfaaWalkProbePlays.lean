/- ProbePlays: the walk of the law: the order answers as the document's own. Condition: the rows lie in memory. -/
import Derived.Test.YthobimdnjggkfaaPrV
import Derived.Test.YthobimdnjggkfaaPrR
import Derived.OrdersHeld
namespace Go.Proofs.Ythobimdnjggkfaa.WProbePlays
open Go.RowKit Kit Prb
set_option linter.unusedVariables false
structure Cll where
  A : Option Addr
  n : Nat
  c : Nat
  zs : List Int
  d : Int
structure CllAt (w : World) (top : Option Addr) (i : Nat) (x : Cll) : Prop where
  at_ : ∃ b off, top = some ⟨b, off, none⟩ ∧ w.cell? ⟨b, off + i * 2, none⟩ = some (.slice x.A x.n x.c) ∧ w.cell? ⟨b, off + i * 2 + 1, none⟩ = some (.int .u64 x.d)
  row : Row w x.A x.zs
  len : x.n = x.zs.length
  cap : x.n ≤ x.c
  max : x.c ≤ 9223372036854775807
  dn : 0 ≤ x.d
theorem CllAt.keep {w w' : World} {top : Option Addr} {i : Nat} {x : Cll} (h : CllAt w top i x) (hb : Below w.heap.size w w') : CllAt w' top i x := by
  obtain ⟨⟨b, off, h1, h2, h3⟩, h4, h5, h6, h7, h8⟩ := h
  exact ⟨⟨b, off, h1, keepCell hb h2, keepCell hb h3⟩, h4.below hb, h5, h6, h7, h8⟩
theorem list_of' (P : Nat → Cll → Prop) : ∀ n, (∀ i, i < n → ∃ c, P i c) → ∃ ls : List Cll, ls.length = n ∧ ∀ (i : Nat) (c : Cll), ls[i]? = some c → P i c
  | 0, _ => ⟨[], rfl, fun i c h => by simp at h⟩
  | n + 1, h => by
    obtain ⟨ls, hl, hp⟩ := list_of' P n (fun i hi => h i (by omega))
    obtain ⟨c, hc⟩ := h n (by omega)
    refine ⟨ls ++ [c], by simp [hl], fun i d hd => ?_⟩
    by_cases hi : i < n
    · rw [List.getElem?_append_left (by omega)] at hd
      exact hp i d hd
    · rw [List.getElem?_append_right (by omega)] at hd
      have : i = n := by
        have := (List.getElem?_eq_some_iff.1 hd).1
        simp at this; omega
      subst this
      rw [hl] at hd
      simp at hd
      subst hd
      exact hc
def shc : Sh := .pair (.slice (.int .i64)) (.pair (.int .u64) .unit)
theorem rd_calls {w : World} {A : Option Addr} {n c : Nat} (h : RD w (.slice shc) [.slice A n c]) : ∃ ls : List Cll, ls.length = n ∧ (∀ i x, ls[i]? = some x → CllAt w A i x) ∧ n ≤ 9223372036854775807 := by
  rcases h with h | ⟨a, len, cap, h, hl, hm, hi⟩
  · simp only [List.cons.injEq, Value.slice.injEq, and_true] at h
    obtain ⟨rfl, rfl, rfl⟩ := h
    exact ⟨[], rfl, fun i x h => by simp at h, by omega⟩
  · simp only [List.cons.injEq, Value.slice.injEq, and_true] at h
    obtain ⟨rfl, rfl, rfl⟩ := h
    have parts : ∀ es, RD w shc es → ∃ A n c d, es = [.slice A n c, .int .u64 d] ∧ RD w (.slice (.int .i64)) [.slice A n c] ∧ 0 ≤ d := fun es h => by
      obtain ⟨xs, ys, h1, _, h2, h3⟩ := rd_pair h
      obtain ⟨A, n, c, rfl⟩ := rd_slice h2
      obtain ⟨xs, zs, rfl, _, h4, h5⟩ := rd_pair h3
      obtain ⟨d, rfl, hd⟩ := rd_int h4
      obtain rfl : zs = [] := h5
      simp [Lit.wf] at hd
      exact ⟨A, n, c, d, by simpa using h1, h2, hd.1⟩
    obtain ⟨ls, hls, hp⟩ := list_of' (fun i x => CllAt w (some a) i x) n (fun i hin => by
      obtain ⟨es, hel, hat, hr⟩ := hi i hin
      obtain ⟨A1, n1, c1, d1, rfl, hs1, hd1⟩ := parts es hr
      obtain ⟨zs, z1, z2, z3, z4, _⟩ := rd_ints hs1
      have e2 : shc.size = 2 := rfl
      rw [e2] at hat
      have h0 := hat 0 (by omega)
      have h1 := hat 1 (by omega)
      have hs : a.spot = none := by
        cases hsp : a.spot with
        | none => rfl
        | some v =>
          obtain ⟨es0, _, hat0, hr0⟩ := hi 0 (by omega)
          obtain ⟨_, _, _, _, rfl, _⟩ := parts es0 hr0
          have := hat0 0 (by rw [e2]; omega)
          rw [e2] at this
          unfold Addr.add at this
          simp [World.cell?, hsp] at this
          split at this <;> simp at this
      rw [add_off a _ hs] at h0 h1
      refine ⟨⟨A1, n1, c1, zs, d1⟩, ⟨a.block, a.off, ?_, ?_, ?_⟩, z2, z1.symm, z3, z4, hd1⟩
      · obtain ⟨b, o, s⟩ := a; simp only at hs; subst hs; rfl
      · rw [Nat.add_zero] at h0; exact h0
      · rw [Nat.add_assoc]; exact h1)
    unfold maxLen at hm
    exact ⟨ls, hls, hp, by omega⟩
theorem wpAnyH_mono {P : Program} {md : Region.Mode} {ops : Array Oper} {Q : Exit → Act → World → Prop} {S S' : World → Prop} (hS : ∀ w, S' w → S w) : ∀ (fuel : Nat) (listed : Array Bool) (a : Act) (w : World), wpAnyH P md ops Q S' fuel listed a w → wpAnyH P md ops Q S fuel listed a w
  | 0, _, _, _, h => h
  | fuel + 1, _, _, _, h => ⟨h.1, fun i hi => wpOp_mono (fun a' w' h' => ⟨hS w' h'.1, wpAnyH_mono hS fuel _ a' w' h'.2⟩) (h.2 i hi)⟩
set_option maxHeartbeats 4000000 in
theorem law (me : Int) (T : Option Addr) (n cT : Nat) (ls : List Cll) (k : Int) (w : World) (hc : Hid (∀ i x, ls[i]? = some x → CllAt w T i x)) (hn : Hid (n = ls.length)) (hm : n ≤ 9223372036854775807) :
    Calls Try.prog 9 #[.int .i64 me, .slice T n cT, .int .i64 k] w fun e w' => e = .returned (.bool true) ∧ Below w.heap.size w w' := by
  go_enter Try.func9, Try.ntmps9
  go_wp2_with fail
  refine (new me _).mono ?_
  rintro e w1 ⟨g, rfl, eg, O1, b1⟩
  go_upto_region 2 with fail
  have gz : g < w1.heap.size := O1.out.lt
  have b2 : Below w1.heap.size w1 (w1.alloc (.cells #[.int .i64 me, .slice none 0 0] 55)) := (Below.refl _ _).alloc (Nat.le_refl _) _
  have m2 : Odr (w1.alloc (.cells #[.int .i64 me, .slice none 0 0] 55)) w1.heap.size me none 0 0 [] :=
    ⟨by rw [World.cell?_alloc_new]; rfl, by rw [World.cell?_alloc_new]; rfl, frozen_of_row _ _ _ _ _ (heap_alloc_new w1 _), rfl, Nat.le_refl _, by omega, .inl ⟨rfl, rfl⟩⟩
  have M2 := Hid.mk_ m2
  have O2 := Hid.mk_ (O1.out.below b2)
  have B2 := Hid.mk_ (b1.trans (b2.mono b1.size))
  have z1 := b1.size
  have ggm : g < w1.heap.size := gz
  have g0 : w.heap.size ≤ g := Nat.le_of_eq eg.out.symm
  clear m2 O1 b1 b2 eg
  generalize (w1.alloc (.cells #[.int .i64 me, .slice none 0 0] 55)) = w2 at *
  generalize w1.heap.size = gm at *
  go_wp2_with fail
  go_loopw [20] (fun v wr => ∃ (i : Nat) (A1 A2 : Option Addr) (n1 c1 n2 c2 : Nat) (r : List Int), i ≤ n ∧ i ≤ 60 ∧ v = .int .i64 (i : Int) ∧ Hid (Odr wr g me A1 n1 c1 r) ∧ Hid (Odr wr gm me A2 n2 c2 r) ∧ Hid (r.length ≤ 8)
    ∧ Hid (∀ b off, A1 = some ⟨b, off, none⟩ → w.heap.size ≤ b ∧ b ≠ gm) ∧ Hid (∀ b off, A2 = some ⟨b, off, none⟩ → w.heap.size ≤ b ∧ b ≠ g ∧ ∀ off', A1 ≠ some ⟨b, off', none⟩) ∧ Hid (Below w.heap.size w wr)) (fun v _ => n - (intOf v).toNat)
  case atStart => exact ⟨0, none, none, 0, 0, 0, 0, [], by omega, by omega, rfl, O2, M2, Hid.mk_ (by simp), Hid.mk_ (fun b off e => by cases e), Hid.mk_ (fun b off e => by cases e), B2⟩
  case round =>
    clear O2 M2 B2
    obtain ⟨i, A1, A2, n1, c1, n2, c2, r, hi, hi60, rfl, ho, hmm, hr8, hA1, hA2, hb⟩ := hrel
    by_cases hlt : i < n
    · obtain ⟨x, hx⟩ : ∃ x, ls[i]? = some x := ⟨_, List.getElem?_eq_getElem (by have := hn.out; omega)⟩
      have cl := (hc.out i x hx).keep hb.out
      have row0 := (hc.out i x hx).row
      obtain ⟨Ax, nx, cx, zs, d⟩ := x
      obtain ⟨⟨bt, ot, rfl, ca, cb⟩, hrow, hlen, hcap, hmax, hd⟩ := cl
      dsimp only at ca cb hrow hlen hcap hmax hd
      have RX := Hid.mk_ hrow
      have RX0 := Hid.mk_ row0
      have NX := Hid.mk_ hlen
      have DX := Hid.mk_ hd
      clear hx hrow hlen hd row0
      by_cases h60 : i = 60
      · subst h60
        have a1 : Below wr.heap.size wr (wr.alloc (.cells #[.slice Ax nx cx, .int .u64 d] 33)) := (Below.refl _ _).alloc (Nat.le_refl _) _
        have B1 := hb.out.trans (a1.mono hb.out.size)
        go_wp2_with fail
        refine Calls.cells (awakeP _) ?_
        intro w9 b9 _
        go_wp2_with fail
        go_ret
        exact ⟨rfl, B1.trans (b9.mono B1.size)⟩
      · have hi59 : i < 60 := by omega
        clear hi60 h60
        have a1 : Below wr.heap.size wr (wr.alloc (.cells #[.slice Ax nx cx, .int .u64 d] 33)) := (Below.refl _ _).alloc (Nat.le_refl _) _
        have B1 := hb.out.trans (a1.mono hb.out.size)
        by_cases h100 : 100 < nx
        · go_wp2_with fail
          refine Calls.cells (awakeP _) ?_
          intro w9 b9 _
          go_wp2_with fail
          go_ret
          exact ⟨rfl, B1.trans (b9.mono B1.size)⟩
        · have h100' : nx ≤ 100 := by omega
          go_upto_region 8 with fail
          have cq0 : (wr.alloc (.cells #[.slice Ax nx cx, .int .u64 d] 33)).cell? ⟨wr.heap.size, 0, none⟩ = some (.slice Ax nx cx) := by rw [World.cell?_alloc_new]; rfl
          have cq1 : (wr.alloc (.cells #[.slice Ax nx cx, .int .u64 d] 33)).cell? ⟨wr.heap.size, 1, none⟩ = some (.int .u64 d) := by rw [World.cell?_alloc_new]; rfl
          have gq : g < wr.heap.size := ho.out.lt
          have gmq : gm < wr.heap.size := hmm.out.lt
          have A1q : Hid (∀ b off, A1 = some ⟨b, off, none⟩ → b < wr.heap.size) := Hid.mk_ (fun b off e => ho.out.blk e)
          have ho1 := Hid.mk_ (ho.out.below a1)
          have hm1 := Hid.mk_ (hmm.out.below a1)
          have R1 := Hid.mk_ (RX.out.below a1)
          have HB1 := Hid.mk_ B1
          clear ho hmm RX a1 B1 hb ca cb
          generalize (wr.alloc (.cells #[.slice Ax nx cx, .int .u64 d] 33)) = wq at *
          generalize wr.heap.size = q at *
          obtain ⟨s, hs⟩ : ∃ s, shuf (zs.take 64).length d (zs.take 64) = s := ⟨_, rfl⟩
          obtain ⟨m, em⟩ : ∃ m, m = s.length := ⟨_, rfl⟩
          have hsl : s.length ≤ 64 := by rw [← hs, shuf_len]; simp; omega
          obtain ⟨rr, hrr⟩ : ∃ rr, many k s.length = rr := ⟨_, rfl⟩
          have hrm : rr ≤ 64 := by have := many_le k s.length; omega
          rw [← em] at hsl
          have HS := Hid.mk_ hs
          have EM := Hid.mk_ em
          have HR := Hid.mk_ hrr
          have ER : Hid (rr = (s.take rr).length) := Hid.mk_ (by have := many_le k s.length; rw [hrr] at this; simp; omega)
          clear hs em hrr
          go_region_held3 (fun w' => w'.cell? ⟨q, 0, none⟩ = some (.slice Ax nx cx) ∧ w'.cell? ⟨q, 1, none⟩ = some (.int .u64 d)) (first | exact ⟨by assumption, by assumption⟩ | go_keep) (first
            | (go_at_call 15; refine (same A4 A5 rr c4 rr c5 (s.take rr) (s.take rr) _ (by exact Hid.mk_ ((own4.row.2.1.take rr).below b5)) ER (by omega) (by exact Hid.mk_ (own5.row.2.1.take rr)) ER (by omega) true (Hid.mk_ (by simp))).mono ?_; rintro e w6 ⟨rfl, b6⟩; have s60 := keepCell b6 s50; have s61 := keepCell b6 s51)
            | (go_at_call 15; refine (same P2 P3 m p2 m p3 s s _ (by exact Hid.mk_ (own2.row.2.1.below b3)) EM (by omega) (by exact Hid.mk_ own3.row.2.1) EM (by omega) true (Hid.mk_ (by simp))).mono ?_; rintro e w4 ⟨rfl, b4⟩; have s40 := keepCell b4 s30; have s41 := keepCell b4 s31)
            | (go_at_call 14; refine (shuffle Ax nx cx zs d _ (by exact Hid.mk_ R1.out.drew) NX (by omega) hcap DX).mono ?_; rintro e w2 ⟨P2, p2, he, own2, b2⟩; rw [HS.out, ← EM.out] at he own2; subst he; have s20 := keepCell b2 (by exact cq0); have s21 := keepCell b2 (by exact cq1))
            | (go_at_call 27; refine (shuffleR Ax nx cx zs d _ (by exact Hid.mk_ (R1.out.drew.below b2)) NX (by omega) hcap DX).mono ?_; rintro e w3 ⟨P3, p3, he, own3, b3⟩; rw [HS.out, ← EM.out] at he own3; subst he; have s30 := keepCell b3 s20; have s31 := keepCell b3 s21)
            | (go_at_call 16; refine (some0 Ax nx cx zs k d _ (by exact Hid.mk_ (((R1.out.drew.below b2).below b3).below b4)) NX (by omega) hcap DX s HS rr HR).mono ?_; rintro e w4' ⟨A4, c4, he, own4, hr4, b4'⟩; subst he; have s4a := keepCell b4' s40; have s4b := keepCell b4' s41)
            | (go_at_call 28; refine (someR0 Ax nx cx zs k d _ (by exact Hid.mk_ ((((R1.out.drew.below b2).below b3).below b4).below b4')) NX (by omega) hcap DX s HS rr HR).mono ?_; rintro e w5 ⟨A5, c5, he, own5, hr5, b5⟩; subst he; have s50 := keepCell b5 s4a; have s51 := keepCell b5 s4b)
            | fail)
          have t2 : Below wq.heap.size wq w2 := (Below.refl _ _).drew.trans b2
          have t3 := t2.trans (b3.mono t2.size)
          have t4 := t3.trans (b4.mono t3.size)
          have t5 := t4.trans (b4'.mono t4.size)
          have t6 := t5.trans (b5.mono t5.size)
          have t7 := t6.trans (b6.mono t6.size)
          have ho7 := Hid.mk_ (ho1.out.below t7)
          have hm7 := Hid.mk_ (hm1.out.below t7)
          have R7 := Hid.mk_ (R1.out.below t7)
          have B7 := Hid.mk_ (HB1.out.trans (t7.mono HB1.out.size))
          have z7 := t7.size
          have qz : q < wq.heap.size := World.block_lt_of_cell? wq _ cq0
          clear own2 own3 own4 own5 b2 b3 b4 b4' b5 b6 t2 t3 t4 t5 t6 t7 s20 s21 s30 s31 s40 s41 s4a s4b s50 s51 ho1 hm1 R1 HB1 cq0 cq1 hr4 hr5 ER HR EM HS hsl hrm
          go_wp2_with fail
          obtain ⟨x1, r1, hnx⟩ : ∃ x1 r1, nxt me zs r d = (x1, r1) := ⟨_, _, rfl⟩
          have hr1 : r1.length ≤ 8 := by have := nxt_len me zs r d; rw [hnx] at this; have := hr8.out; simp at *; omega
          have NX1 := Hid.mk_ hnx
          clear hnx
          refine wp_region_held_drew (S := fun w' => w'.cell? ⟨q, 0, none⟩ = some (.slice Ax nx cx) ∧ w'.cell? ⟨q, 1, none⟩ = some (.int .u64 d)) (by kernel_rfl) ⟨s60, s61⟩ (fun hHeld => ?_)
          refine' wpAnyH_take (i := 0) (oi := _) (v := _) ?hi0 (by kernel_rfl) (by kernel_rfl) (by kernel_rfl) ?hQ0 (Or.inl ⟨?hw0, ?hy0⟩) (by assumption) ?rest0
          case hi0 => exact (by simp only [List.getElem?_toArray, List.getElem?_cons_zero]; rfl)
          case hQ0 => exact fun _ _ _ h => h
          case hw0 => rfl
          case hy0 =>
            intro w hSw
            try dsimp only at hSw
            go_simp
            all_goals with_reducible rfl
          try simp only [Act.put, List.setIfInBounds_toArray, List.set_cons_zero, List.set_cons_succ]
          refine' wpAnyH_take (i := 1) (oi := _) (v := _) ?hi1 (by kernel_rfl) (by kernel_rfl) (by kernel_rfl) ?hQ1 (Or.inl ⟨?hw1, ?hy1⟩) (by assumption) ?rest1
          case hi1 => exact (by simp only [List.getElem?_toArray, List.getElem?_cons_zero, List.getElem?_cons_succ]; rfl)
          case hQ1 => exact fun _ _ _ h => h
          case hw1 => rfl
          case hy1 =>
            intro w hSw
            try dsimp only at hSw
            go_simp
            all_goals with_reducible rfl
          try simp only [Act.put, List.setIfInBounds_toArray, List.set_cons_zero, List.set_cons_succ]
          refine' wpAnyH_take (i := 2) (oi := _) (v := _) ?hi2 (by kernel_rfl) (by kernel_rfl) (by kernel_rfl) ?hQ2 (Or.inl ⟨?hw2, ?hy2⟩) (by assumption) ?rest2
          case hi2 => exact (by simp only [List.getElem?_toArray, List.getElem?_cons_zero, List.getElem?_cons_succ]; rfl)
          case hQ2 => exact fun _ _ _ h => h
          case hw2 => rfl
          case hy2 =>
            intro w hSw
            try dsimp only at hSw
            go_simp
            all_goals with_reducible rfl
          try simp only [Act.put, List.setIfInBounds_toArray, List.set_cons_zero, List.set_cons_succ]
          refine' wpAnyH_take (i := 3) (oi := _) (v := _) ?hi3 (by kernel_rfl) (by kernel_rfl) (by kernel_rfl) ?hQ3 (Or.inl ⟨?hw3, ?hy3⟩) (by assumption) ?rest3
          case hi3 => exact (by simp only [List.getElem?_toArray, List.getElem?_cons_zero, List.getElem?_cons_succ]; rfl)
          case hQ3 => exact fun _ _ _ h => h
          case hw3 => rfl
          case hy3 =>
            intro w hSw
            try dsimp only at hSw
            go_simp
            all_goals with_reducible rfl
          try simp only [Act.put, List.setIfInBounds_toArray, List.set_cons_zero, List.set_cons_succ]
          refine' wpAnyH_take (i := 4) (oi := _) (v := _) ?hi4 (by kernel_rfl) (by kernel_rfl) (by kernel_rfl) ?hQ4 (Or.inl ⟨?hw4, ?hy4⟩) (by assumption) ?rest4
          case hi4 => exact (by simp only [List.getElem?_toArray, List.getElem?_cons_zero, List.getElem?_cons_succ]; rfl)
          case hQ4 => exact fun _ _ _ h => h
          case hw4 => rfl
          case hy4 =>
            intro w hSw
            try dsimp only at hSw
            go_simp
            all_goals with_reducible rfl
          try simp only [Act.put, List.setIfInBounds_toArray, List.set_cons_zero, List.set_cons_succ]
          refine' wpAnyH_take (i := 6) (oi := _) (v := _) ?hi6 (by kernel_rfl) (by kernel_rfl) (by kernel_rfl) ?hQ6 (Or.inl ⟨?hw6, ?hy6⟩) (by assumption) ?rest6
          case hi6 => exact (by simp only [List.getElem?_toArray, List.getElem?_cons_zero, List.getElem?_cons_succ]; rfl)
          case hQ6 => exact fun _ _ _ h => h
          case hw6 => rfl
          case hy6 =>
            intro w hSw
            try dsimp only at hSw
            go_simp
            all_goals with_reducible rfl
          try simp only [Act.put, List.setIfInBounds_toArray, List.set_cons_zero, List.set_cons_succ]
          refine' wpAnyH_take (i := 7) (oi := _) (v := _) ?hi7 (by kernel_rfl) (by kernel_rfl) (by kernel_rfl) ?hQ7 (Or.inl ⟨?hw7, ?hy7⟩) (by assumption) ?rest7
          case hi7 => exact (by simp only [List.getElem?_toArray, List.getElem?_cons_zero, List.getElem?_cons_succ]; rfl)
          case hQ7 => exact fun _ _ _ h => h
          case hw7 => rfl
          case hy7 =>
            intro w hSw
            try dsimp only at hSw
            go_simp
            all_goals with_reducible rfl
          try simp only [Act.put, List.setIfInBounds_toArray, List.set_cons_zero, List.set_cons_succ]
          refine' wpAnyH_take (i := 8) (oi := _) (v := _) ?hi8 (by kernel_rfl) (by kernel_rfl) (by kernel_rfl) ?hQ8 (Or.inl ⟨?hw8, ?hy8⟩) (by assumption) ?rest8
          case hi8 => exact (by simp only [List.getElem?_toArray, List.getElem?_cons_zero, List.getElem?_cons_succ]; rfl)
          case hQ8 => exact fun _ _ _ h => h
          case hw8 => rfl
          case hy8 =>
            intro w hSw
            try dsimp only at hSw
            go_simp
            all_goals with_reducible rfl
          try simp only [Act.put, List.setIfInBounds_toArray, List.set_cons_zero, List.set_cons_succ]
          refine' wpAnyH_take (i := 9) (oi := _) (v := _) ?hi9 (by kernel_rfl) (by kernel_rfl) (by kernel_rfl) ?hQ9 (Or.inl ⟨?hw9, ?hy9⟩) (by assumption) ?rest9
          case hi9 => exact (by simp only [List.getElem?_toArray, List.getElem?_cons_zero, List.getElem?_cons_succ]; rfl)
          case hQ9 => exact fun _ _ _ h => h
          case hw9 => rfl
          case hy9 =>
            intro w hSw
            try dsimp only at hSw
            go_simp
            all_goals with_reducible rfl
          try simp only [Act.put, List.setIfInBounds_toArray, List.set_cons_zero, List.set_cons_succ]
          refine' wpAnyH_take (i := 10) (oi := _) (v := _) ?hi10 (by kernel_rfl) (by kernel_rfl) (by kernel_rfl) ?hQ10 (Or.inl ⟨?hw10, ?hy10⟩) (by assumption) ?rest10
          case hi10 => exact (by simp only [List.getElem?_toArray, List.getElem?_cons_zero, List.getElem?_cons_succ]; rfl)
          case hQ10 => exact fun _ _ _ h => h
          case hw10 => rfl
          case hy10 =>
            intro w hSw
            try dsimp only at hSw
            go_simp
            all_goals with_reducible rfl
          try simp only [Act.put, List.setIfInBounds_toArray, List.set_cons_zero, List.set_cons_succ]
          refine wpAnyH_ready (rs := [5]) (by kernel_rfl) (by simp) ?_
          refine AllReadyH.cons (by simp only [List.getElem?_toArray, List.getElem?_cons_zero, List.getElem?_cons_succ]; rfl) (fun K hK => ?_) AllReadyH.nil
          go_simp
          refine (next (by exact Hid.mk_ ho7.out.drew) Ax nx cx zs (by exact Hid.mk_ R7.out.drew) NX (by omega) d DX).mono ?_
          rintro e w8 ⟨he, A3, n3, c3, O8, hA8, W8⟩
          rw [NX1.out] at he O8
          obtain rfl := he
          have nq : ¬ Its g A1 q := by
            rintro (h | ⟨off, h⟩)
            · omega
            · have := A1q.out _ _ h; omega
          have ngm : ¬ Its g A1 gm := by
            rintro (h | ⟨off, h⟩)
            · omega
            · exact (hA1.out _ _ h).2 rfl
          have s80 : w8.cell? ⟨q, 0, none⟩ = some (.slice Ax nx cx) := W8.cell (by exact s60) nq
          have s81 : w8.cell? ⟨q, 1, none⟩ = some (.int .u64 d) := W8.cell (by exact s61) nq
          have hm8 := Hid.mk_ (hm7.out.drew.wr W8 ngm (fun b off e => by
            rintro (h | ⟨off', h⟩)
            · exact (hA2.out _ _ e).2.1 h
            · exact (hA2.out _ _ e).2.2 _ h))
          have B8 := Hid.mk_ (B7.out.drew.trans (W8.below B7.out.drew.size (fun k hk => by
            rcases hk with rfl | ⟨off, e⟩
            · exact g0
            · exact (hA1.out _ _ e).1)))
          have o8 := Hid.mk_ hA8
          have z8 := W8.size
          have A2q : Hid (∀ b off, A2 = some ⟨b, off, none⟩ → b < w6.heap.size) := Hid.mk_ (fun b off e => hm7.out.blk e)
          have gq6 : g < w6.heap.size := ho7.out.lt
          clear ho7 hm7 s60 s61 hA8 W8 R7 B7
          go_wp2_with fail
          refine hK.out _ _ ?_ (fun hHeld => ?_)
          · exact ⟨s80, s81⟩
          clear hK K
          try simp only [Act.put, List.setIfInBounds_toArray, List.set_cons_zero, List.set_cons_succ]
          refine wpAnyH_ready (rs := [11]) (by kernel_rfl) (by simp) ?_
          refine AllReadyH.cons (by simp only [List.getElem?_toArray, List.getElem?_cons_zero, List.getElem?_cons_succ]; rfl) (fun K hK => ?_) AllReadyH.nil
          go_simp
          refine (nextR hm8 (by have := hr8.out; omega) Ax nx cx zs (Hid.mk_ (RX0.out.below B8.out)) NX (by omega) d DX).mono ?_
          rintro e w9 ⟨he, A5, n5, c5, O9, hA9, W9⟩
          rw [NX1.out] at he O9
          obtain rfl := he
          have s90 : w9.cell? ⟨q, 0, none⟩ = some (.slice Ax nx cx) := W9.cell s80 (by omega)
          have s91 : w9.cell? ⟨q, 1, none⟩ = some (.int .u64 d) := W9.cell s81 (by omega)
          have hA3 : Hid (∀ b off, A3 = some ⟨b, off, none⟩ → w.heap.size ≤ b ∧ b ≠ gm) := Hid.mk_ (fun b off e => by
            rcases o8.out b off e with ⟨off', h⟩ | h
            · exact hA1.out _ _ h
            · have h' : w6.heap.size ≤ b := h
              exact ⟨by omega, by omega⟩)
          have ho9 := Hid.mk_ (O8.out.wr W9 (by omega) (fun b off e => (hA3.out b off e).2))
          have B9 := Hid.mk_ (B8.out.trans (W9.below B8.out.size (fun k hk => by omega)))
          have hA5 : Hid (∀ b off, A5 = some ⟨b, off, none⟩ → w.heap.size ≤ b ∧ b ≠ g ∧ ∀ off', A3 ≠ some ⟨b, off', none⟩) := Hid.mk_ (fun b off e => by
            have z8' : w6.heap.size ≤ w8.heap.size := z8
            have zz := B8.out.size
            rcases hA9 b off e with h | h
            · refine ⟨(hA2.out _ _ h).1, (hA2.out _ _ h).2.1, fun off' e3 => ?_⟩
              rcases o8.out b off' e3 with ⟨off2, h2⟩ | h2
              · exact (hA2.out _ _ h).2.2 _ h2
              · have := A2q.out _ _ h
                have h2' : w6.heap.size ≤ b := h2
                omega
            · refine ⟨by omega, by omega, fun off' e3 => ?_⟩
              have := O8.out.blk e3
              omega)
          have cm9 := O9.out.cell1
          clear hm8 s80 s81 hA9 W9 B8 O8 o8 hA1 hA2 A1q A2q NX1
          go_wp2_with fail
          refine hK.out _ _ ?_ (fun hHeld => ?_)
          · exact ⟨s90, s91⟩
          clear hK K
          try simp only [Act.put, List.setIfInBounds_toArray, List.set_cons_zero, List.set_cons_succ]
          refine' wpAnyH_take (i := 12) (oi := _) (v := _) ?hi12 (by kernel_rfl) (by kernel_rfl) (by kernel_rfl) ?hQ12 (Or.inl ⟨?hw12, ?hy12⟩) (by assumption) ?rest12
          case hi12 => exact (by simp only [List.getElem?_toArray, List.getElem?_cons_zero, List.getElem?_cons_succ]; rfl)
          case hQ12 => exact fun _ _ _ h => h
          case hw12 => rfl
          case hy12 =>
            intro w hSw
            try dsimp only at hSw
            go_simp
            all_goals with_reducible rfl
          try simp only [Act.put, List.setIfInBounds_toArray, List.set_cons_zero, List.set_cons_succ]
          refine' wpAnyH_take (i := 13) (oi := _) (v := _) ?hi13 (by kernel_rfl) (by kernel_rfl) (by kernel_rfl) ?hQ13 (Or.inl ⟨?hw13, ?hy13⟩) (by assumption) ?rest13
          case hi13 => exact (by simp only [List.getElem?_toArray, List.getElem?_cons_zero, List.getElem?_cons_succ]; rfl)
          case hQ13 => exact fun _ _ _ h => h
          case hw13 => rfl
          case hy13 =>
            intro w hSw
            try dsimp only at hSw
            go_simp
            all_goals with_reducible rfl
          try simp only [Act.put, List.setIfInBounds_toArray, List.set_cons_zero, List.set_cons_succ]
          refine' wpAnyH_take (i := 14) (oi := _) (v := _) ?hi14 (by kernel_rfl) (by kernel_rfl) (by kernel_rfl) ?hQ14 (Or.inl ⟨?hw14, ?hy14⟩) (by assumption) ?rest14
          case hi14 => exact (by simp only [List.getElem?_toArray, List.getElem?_cons_zero, List.getElem?_cons_succ]; rfl)
          case hQ14 => exact fun _ _ _ h => h
          case hw14 => rfl
          case hy14 =>
            intro w hSw
            try dsimp only at hSw
            go_simp
            all_goals with_reducible rfl
          try simp only [Act.put, List.setIfInBounds_toArray, List.set_cons_zero, List.set_cons_succ]
          refine' wpAnyH_take (i := 16) (oi := _) (v := _) ?hi16 (by kernel_rfl) (by kernel_rfl) (by kernel_rfl) ?hQ16 (Or.inl ⟨?hw16, ?hy16⟩) (by assumption) ?rest16
          case hi16 => exact (by simp only [List.getElem?_toArray, List.getElem?_cons_zero, List.getElem?_cons_succ]; rfl)
          case hQ16 => exact fun _ _ _ h => h
          case hw16 => rfl
          case hy16 =>
            intro w hSw
            try dsimp only at hSw
            go_simp
            all_goals with_reducible rfl
          try simp only [Act.put, List.setIfInBounds_toArray, List.set_cons_zero, List.set_cons_succ]
          refine' wpAnyH_take (i := 17) (oi := _) (v := _) ?hi17 (by kernel_rfl) (by kernel_rfl) (by kernel_rfl) ?hQ17 (Or.inl ⟨?hw17, ?hy17⟩) (by assumption) ?rest17
          case hi17 => exact (by simp only [List.getElem?_toArray, List.getElem?_cons_zero, List.getElem?_cons_succ]; rfl)
          case hQ17 => exact fun _ _ _ h => h
          case hw17 => rfl
          case hy17 =>
            intro w hSw
            try dsimp only at hSw
            go_simp
            all_goals with_reducible rfl
          try simp only [Act.put, List.setIfInBounds_toArray, List.set_cons_zero, List.set_cons_succ]
          refine' wpAnyH_take (i := 18) (oi := _) (v := _) ?hi18 (by kernel_rfl) (by kernel_rfl) (by kernel_rfl) ?hQ18 (Or.inl ⟨?hw18, ?hy18⟩) (by assumption) ?rest18
          case hi18 => exact (by simp only [List.getElem?_toArray, List.getElem?_cons_zero, List.getElem?_cons_succ]; rfl)
          case hQ18 => exact fun _ _ _ h => h
          case hw18 => rfl
          case hy18 =>
            intro w hSw
            try dsimp only at hSw
            go_simp
            all_goals with_reducible rfl
          try simp only [Act.put, List.setIfInBounds_toArray, List.set_cons_zero, List.set_cons_succ]
          refine wpAnyH_mono (S' := fun w' => (w'.cell? ⟨q, 0, none⟩ = some (.slice Ax nx cx) ∧ w'.cell? ⟨q, 1, none⟩ = some (.int .u64 d)) ∧ w'.cell? ⟨gm, 1, none⟩ = some (.slice A5 n5 c5)) (fun _ h => h.1) _ _ _ _ ?_
          have hHeld2 : (w9.cell? ⟨q, 0, none⟩ = some (.slice Ax nx cx) ∧ w9.cell? ⟨q, 1, none⟩ = some (.int .u64 d)) ∧ w9.cell? ⟨gm, 1, none⟩ = some (.slice A5 n5 c5) := ⟨⟨s90, s91⟩, cm9⟩
          refine' wpAnyH_take (i := 19) (oi := _) (v := _) ?hi19 (by kernel_rfl) (by kernel_rfl) (by kernel_rfl) ?hQ19 (Or.inl ⟨?hw19, ?hy19⟩) (by assumption) ?rest19
          case hi19 => exact (by simp only [List.getElem?_toArray, List.getElem?_cons_zero, List.getElem?_cons_succ]; rfl)
          case hQ19 => exact fun _ _ _ h => h
          case hw19 => rfl
          case hy19 =>
            intro w hSw
            try dsimp only at hSw
            go_simp
            all_goals with_reducible rfl
          try simp only [Act.put, List.setIfInBounds_toArray, List.set_cons_zero, List.set_cons_succ]
          obtain ⟨z, ez⟩ : ∃ z, z = r1.length := ⟨_, rfl⟩
          rw [← ez] at hr1
          have EZ := Hid.mk_ ez
          have EN5 := Hid.mk_ O9.out.len
          have n58 : n5 ≤ 8 := by have := O9.out.len; omega
          clear ez
          refine wpAnyH_ready (rs := [15]) (by kernel_rfl) (by simp) ?_
          refine AllReadyH.cons (by simp only [List.getElem?_toArray, List.getElem?_cons_zero, List.getElem?_cons_succ]; rfl) (fun K hK => ?_) AllReadyH.nil
          go_simp
          refine (rest ho9 (by have := EZ.out; omega)).mono ?_
          rintro e w10 ⟨A6, c6, he, own6, b10⟩
          rw [← EZ.out] at he own6
          subst he
          have P6 := Hid.mk_ own6.row.2.1
          have P5 := Hid.mk_ (O9.out.readable.below b10)
          have sA : (w10.cell? ⟨q, 0, none⟩ = some (.slice Ax nx cx) ∧ w10.cell? ⟨q, 1, none⟩ = some (.int .u64 d)) ∧ w10.cell? ⟨gm, 1, none⟩ = some (.slice A5 n5 c5) := ⟨⟨keepCell b10 s90, keepCell b10 s91⟩, keepCell b10 cm9⟩
          clear own6
          go_wp2_with fail
          refine hK.out _ _ ?_ (fun hHeld => ?_)
          · exact sA
          clear hK K
          try simp only [Act.put, List.setIfInBounds_toArray, List.set_cons_zero, List.set_cons_succ]
          refine wpAnyH_ready (rs := [20]) (by kernel_rfl) (by simp) ?_
          refine AllReadyH.cons (by simp only [List.getElem?_toArray, List.getElem?_cons_zero, List.getElem?_cons_succ]; rfl) (fun K hK => ?_) AllReadyH.nil
          go_simp
          refine (same A6 A5 z c6 n5 c5 r1 r1 _ P6 EZ (by omega) P5 EN5 (by omega) true (Hid.mk_ (by simp))).mono ?_
          rintro e w11 ⟨rfl, b11⟩
          have sB : (w11.cell? ⟨q, 0, none⟩ = some (.slice Ax nx cx) ∧ w11.cell? ⟨q, 1, none⟩ = some (.int .u64 d)) ∧ w11.cell? ⟨gm, 1, none⟩ = some (.slice A5 n5 c5) := ⟨⟨keepCell b11 sA.1.1, keepCell b11 sA.1.2⟩, keepCell b11 sA.2⟩
          go_wp2_with fail
          refine hK.out _ _ ?_ (fun hHeld => ?_)
          · exact sB
          clear hK K
          try simp only [Act.put, List.setIfInBounds_toArray, List.set_cons_zero, List.set_cons_succ]
          refine' wpAnyH_take (i := 21) (oi := _) (v := _) ?hi21 (by kernel_rfl) (by kernel_rfl) (by kernel_rfl) ?hQ21 (Or.inl ⟨?hw21, ?hy21⟩) (by assumption) ?rest21
          case hi21 => exact (by simp only [List.getElem?_toArray, List.getElem?_cons_zero, List.getElem?_cons_succ]; rfl)
          case hQ21 => exact fun _ _ _ h => h
          case hw21 => rfl
          case hy21 =>
            intro w hSw
            try dsimp only at hSw
            go_simp
            all_goals with_reducible rfl
          try simp only [Act.put, List.setIfInBounds_toArray, List.set_cons_zero, List.set_cons_succ]
          refine' wpAnyH_take (i := 22) (oi := _) (v := _) ?hi22 (by kernel_rfl) (by kernel_rfl) (by kernel_rfl) ?hQ22 (Or.inl ⟨?hw22, ?hy22⟩) (by assumption) ?rest22
          case hi22 => exact (by simp only [List.getElem?_toArray, List.getElem?_cons_zero, List.getElem?_cons_succ]; rfl)
          case hQ22 => exact fun _ _ _ h => h
          case hw22 => rfl
          case hy22 =>
            intro w hSw
            try dsimp only at hSw
            go_simp
            all_goals with_reducible rfl
          try simp only [Act.put, List.setIfInBounds_toArray, List.set_cons_zero, List.set_cons_succ]
          refine wpAnyH_done (by kernel_rfl) ?_ _
          have t11 : Below w9.heap.size w9 w11 := b10.trans (b11.mono b10.size)
          have ho11 := Hid.mk_ (ho9.out.below t11)
          have hm11 := Hid.mk_ (O9.out.below t11)
          have B11 := Hid.mk_ (B9.out.trans (t11.mono B9.out.size))
          have R8 : Hid (r1.length ≤ 8) := Hid.mk_ (by have := EZ.out; omega)
          clear ho9 O9 B9 b10 b11 t11 sA sB hHeld2 P5 P6 s90 s91 cm9
          go_wp2_with fail
          go_roundw
          case rel => exact ⟨i + 1, A3, A5, n3, c3, n5, c5, r1, by omega, by omega, by go_num, ho11, hm11, R8, hA3, hA5, B11⟩
          case measure => simp [intOf]; omega
    · obtain rfl : i = n := by omega
      go_wp2_with fail
      refine Calls.cells (awakeP _) ?_
      intro w9 b9 _
      go_wp2_with fail
      go_ret
      exact ⟨rfl, hb.out.trans (b9.mono hb.out.size)⟩
def sh1 : Sh := shc
theorem walk (w : World) (me : Int) (hme : (Lit.int .i64 me).wf = true) (A : Option Addr) (n c : Nat) (h : RD w (.slice sh1) [.slice A n c]) (k : Int) (hk : (Lit.int .i64 k).wf = true) :
    Calls Try.prog 9 #[.int .i64 me, .slice A n c, .int .i64 k] w fun e w' => e = .returned (.bool true) ∧ Below w.heap.size w w' := by
  obtain ⟨ls, h1, h2, h3⟩ := rd_calls h
  exact law me A n c ls k w (Hid.mk_ h2) (Hid.mk_ h1.symm) h3
end Go.Proofs.Ythobimdnjggkfaa.WProbePlays
