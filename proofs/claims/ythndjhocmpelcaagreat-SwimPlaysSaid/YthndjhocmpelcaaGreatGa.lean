/- Words of the layers below: health, rows, claims. Conditions: as each theorem says. -/
import Derived.Test.YthndjhocmpelcaaGreatProg
import Derived.Test.YthndjhocmpelcaaGreatKit
import Derived.WalkKit
import Derived.Deep.LoopGhost
import Derived.Deep.Cut
import Derived.Deep.RegionHeld3
import Derived.BigRegion
import Derived.OwnWalk
import Derived.Laws.OwnMore
import Derived.Test.YthndjhocmpelcaaGreatReads
namespace Go.Proofs.YthndjhocmpelcaaGreat.Hth
open Go.RowKit Kit
set_option linter.unusedVariables false
theorem Hid.mk_ {p : Prop} (h : p) : Hid p := h
def cmpI (a b : Int) : Int := if a < b then -1 else if b < a then 1 else 0
/-- How loud a claim is against another: the node's number takes no part. -/
def cmpC (i h j k : Int) : Int :=
  if h = 4 then (if k = 4 then 0 else 1) else if k = 4 then -1 else if i < j then -1 else if j < i then 1 else if h < k then -1 else if k < h then 1 else 0
def nodeB (n : Int) : Bool := decide (0 ≤ n ∧ n < 8)
def mayC (n i h : Int) : Bool := decide (0 ≤ n ∧ n < 8 ∧ (h = 0 ∧ i = 0 ∨ 0 ≤ i ∧ i ≤ 1000000 ∧ 1 ≤ h ∧ h ≤ 4))
theorem node1 (n : Int) (w : World) (q : Bool) (hq : Hid (q = nodeB n)) : Calls Tryz.prog 61 #[.int .i64 n] w fun e w' => e = .returned (.bool q) ∧ w' = w := by
  by_cases h0 : 0 ≤ n
  · by_cases h1 : n < 8
    · go_enter Tryz.func61, Tryz.ntmps61
      go_wp2_with fail
      go_ret
      exact ⟨by rw [hq.out]; simp [nodeB, h0, h1], rfl⟩
    · go_enter Tryz.func61, Tryz.ntmps61
      go_wp2_with fail
      go_ret
      exact ⟨by rw [hq.out]; simp [nodeB, h1], rfl⟩
  · go_enter Tryz.func61, Tryz.ntmps61
    go_wp2_with fail
    go_ret
    exact ⟨by rw [hq.out]; simp [nodeB]; omega, rfl⟩
theorem left1 (n i h : Int) (w : World) (r : Int) (hr : Hid (r = if h = 4 then 1 else 0)) : Calls Tryz.prog 82 #[.agg #[.int .i64 n, .int .i64 i, .int .i64 h]] w fun e w' => e = .returned (.int .i64 r) ∧ Below w.heap.size w w' := by
  by_cases h4 : h = 4
  · have e : r = 1 := by rw [hr.out, if_pos h4]
    have hb : (h == 4) = true := by simp [h4]
    subst e
    clear hr h4
    go_enter Tryz.func82, Tryz.ntmps82
    go_wp2_with fail
    go_ret
    exact ⟨rfl, (Below.refl _ w).alloc (Nat.le_refl _) _⟩
  · have e : r = 0 := by rw [hr.out, if_neg h4]
    have hb : (h == 4) = false := by simp [h4]
    subst e
    clear hr h4
    go_enter Tryz.func82, Tryz.ntmps82
    go_wp2_with fail
    go_ret
    exact ⟨rfl, (Below.refl _ w).alloc (Nat.le_refl _) _⟩
theorem nan1 (n : Int) (w : World) : Calls Tryz.prog 96 #[.int .i64 n] w fun e w' => e = .returned (.bool false) ∧ w' = w := by
  go_enter Tryz.func96, Tryz.ntmps96
  go_wp2_with fail
  go_ret
  exact ⟨by simp, rfl⟩
theorem cmp1 (a b : Int) (w : World) (r : Int) (hr : Hid (r = cmpI a b)) : Calls Tryz.prog 84 #[.int .i64 a, .int .i64 b] w fun e w' => e = .returned (.int .i64 r) ∧ w' = w := by
  by_cases h1 : a < b
  · have e : r = -1 := by rw [hr.out, cmpI, if_pos h1]
    subst e
    clear hr
    go_enter Tryz.func84, Tryz.ntmps84
    go_wp2_with (go_at_call 96; refine (nan1 _ _).mono ?_; rintro e w2 ⟨rfl, rfl⟩)
    go_ret
    exact ⟨rfl, rfl⟩
  · by_cases h2 : b < a
    · have e : r = 1 := by rw [hr.out, cmpI, if_neg h1, if_pos h2]
      subst e
      clear hr
      go_enter Tryz.func84, Tryz.ntmps84
      go_wp2_with (go_at_call 96; refine (nan1 _ _).mono ?_; rintro e w2 ⟨rfl, rfl⟩)
      go_ret
      exact ⟨rfl, rfl⟩
    · have e : r = 0 := by rw [hr.out, cmpI, if_neg h1, if_neg h2]
      subst e
      clear hr
      go_enter Tryz.func84, Tryz.ntmps84
      go_wp2_with (go_at_call 96; refine (nan1 _ _).mono ?_; rintro e w2 ⟨rfl, rfl⟩)
      go_ret
      exact ⟨rfl, rfl⟩
theorem or1 (q c : Nat) (x y : Int) (w : World) (h0 : w.cell? ⟨q, 0, none⟩ = some (.int .i64 x)) (h1 : w.cell? ⟨q, 1, none⟩ = some (.int .i64 y)) (r : Int) (hr : Hid (r = if x = 0 then y else x)) :
    Calls Tryz.prog 83 #[.slice (some ⟨q, 0, none⟩) 2 c] w fun e w' => e = .returned (.int .i64 r) ∧ w' = w := by
  go_enter Tryz.func83, Tryz.ntmps83
  go_wp2_with fail
  go_loopg [8] 2 (fun gg i wr => ∃ k : Nat, i = .int .i64 (k : Int) ∧ k ≤ 2 ∧ 2 - k ≤ gg ∧ wr = w ∧ Hid (0 < k → x = 0) ∧ Hid (1 < k → y = 0))
  case atStart => exact ⟨0, rfl, by omega, by omega, rfl, Hid.mk_ (by omega), Hid.mk_ (by omega)⟩
  case round =>
    obtain ⟨k, rfl, hk, hg, rfl, H0, H1⟩ := hrel
    obtain rfl | rfl | rfl : k = 0 ∨ k = 1 ∨ k = 2 := by omega
    · by_cases hx : x = 0
      · have hb : (x != 0) = false := by simp [hx]
        have HX := Hid.mk_ hx
        clear hx
        go_wp2_with fail
        go_roundg 1
        case measure => omega
        case rel => exact ⟨1, rfl, by omega, by omega, rfl, Hid.mk_ (fun _ => HX.out), Hid.mk_ (by omega)⟩
      · have hb : (x != 0) = true := by simp [hx]
        have e : x = r := by rw [hr.out, if_neg hx]
        subst e
        clear hr hx
        go_wp2_with fail
        go_ret
        exact ⟨rfl, rfl⟩
    · have hx := H0.out (by omega)
      have e : y = r := by rw [hr.out, if_pos hx]
      subst e
      clear hr hx
      by_cases hy : y = 0
      · have hb : (y != 0) = false := by simp [hy]
        have HY := Hid.mk_ hy
        clear hy
        go_wp2_with fail
        go_roundg 0
        case measure => omega
        case rel => exact ⟨2, rfl, by omega, by omega, rfl, Hid.mk_ (fun _ => H0.out (by omega)), Hid.mk_ (fun _ => HY.out)⟩
      · have hb : (y != 0) = true := by simp [hy]
        clear hy
        go_wp2_with fail
        go_ret
        exact ⟨rfl, rfl⟩
    · have e : r = 0 := by rw [hr.out, if_pos (H0.out (by omega)), H1.out (by omega)]
      subst e
      clear hr
      go_wp2_with fail
      go_ret
      exact ⟨rfl, rfl⟩
theorem may1 (n i h : Int) (w : World) (q : Bool) (hq : Hid (q = mayC n i h)) : Calls Tryz.prog 35 #[.agg #[.int .i64 n, .int .i64 i, .int .i64 h]] w fun e w' => e = .returned (.bool q) ∧ Below w.heap.size w w' := by
  cases hn : nodeB n with
  | false =>
    have e : q = false := by rw [hq.out]; unfold nodeB at hn; unfold mayC; simp only [decide_eq_false_iff_not] at hn ⊢; omega
    have HN := Hid.mk_ hn.symm
    subst e
    clear hq hn
    go_enter Tryz.func35, Tryz.ntmps35
    go_wp2_with (go_at_call 61; refine (node1 n _ false HN).mono ?_; rintro e w2 ⟨rfl, rfl⟩)
    go_ret
    exact ⟨rfl, (Below.refl _ w).alloc (Nat.le_refl _) _⟩
  | true =>
    have HN := Hid.mk_ hn.symm
    have hN : 0 ≤ n ∧ n < 8 := by unfold nodeB at hn; simpa using hn
    by_cases h0 : h = 0
    · have e : q = (i == 0) := by rw [hq.out]; unfold mayC; rw [Bool.eq_iff_iff]; simp; omega
      have hb : (h == 0) = true := by simp [h0]
      subst e
      clear hq hn hN h0
      go_enter Tryz.func35, Tryz.ntmps35
      go_wp2_with (go_at_call 61; refine (node1 n _ true HN).mono ?_; rintro e w2 ⟨rfl, rfl⟩)
      go_ret
      exact ⟨rfl, (Below.refl _ w).alloc (Nat.le_refl _) _⟩
    · have hb : (h == 0) = false := by simp [h0]
      by_cases i0 : 0 ≤ i
      · by_cases i1 : i ≤ 1000000
        · by_cases h1 : 1 ≤ h
          · have e : q = decide (h ≤ 4) := by rw [hq.out]; unfold mayC; rw [Bool.eq_iff_iff]; simp; omega
            subst e
            clear hq hn hN h0
            go_enter Tryz.func35, Tryz.ntmps35
            go_wp2_with (go_at_call 61; refine (node1 n _ true HN).mono ?_; rintro e w2 ⟨rfl, rfl⟩)
            go_ret
            exact ⟨rfl, (Below.refl _ w).alloc (Nat.le_refl _) _⟩
          · have e : q = false := by rw [hq.out]; unfold mayC; simp only [decide_eq_false_iff_not]; omega
            subst e
            clear hq hn hN h0
            go_enter Tryz.func35, Tryz.ntmps35
            go_wp2_with (go_at_call 61; refine (node1 n _ true HN).mono ?_; rintro e w2 ⟨rfl, rfl⟩)
            go_ret
            exact ⟨rfl, (Below.refl _ w).alloc (Nat.le_refl _) _⟩
        · have e : q = false := by rw [hq.out]; unfold mayC; simp only [decide_eq_false_iff_not]; omega
          subst e
          clear hq hn hN h0
          go_enter Tryz.func35, Tryz.ntmps35
          go_wp2_with (go_at_call 61; refine (node1 n _ true HN).mono ?_; rintro e w2 ⟨rfl, rfl⟩)
          go_ret
          exact ⟨rfl, (Below.refl _ w).alloc (Nat.le_refl _) _⟩
      · have e : q = false := by rw [hq.out]; unfold mayC; simp only [decide_eq_false_iff_not]; omega
        subst e
        clear hq hn hN h0
        go_enter Tryz.func35, Tryz.ntmps35
        go_wp2_with (go_at_call 61; refine (node1 n _ true HN).mono ?_; rintro e w2 ⟨rfl, rfl⟩)
        go_ret
        exact ⟨rfl, (Below.refl _ w).alloc (Nat.le_refl _) _⟩
theorem cmp_or (i h j k : Int) (h4 : h ≠ 4) (k4 : k ≠ 4) : cmpC i h j k = if cmpI i j = 0 then cmpI h k else cmpI i j := by
  unfold cmpC cmpI
  rw [if_neg h4, if_neg k4]
  by_cases h1 : i < j
  · simp [h1]
  · by_cases h2 : j < i
    · simp [h1, h2]
    · simp [h1, h2]
set_option maxRecDepth 100000 in
set_option maxHeartbeats 2000000 in
theorem compare1 (n i h m j k : Int) (w : World) (r : Int) (hr : Hid (r = cmpC i h j k)) : Calls Tryz.prog 59 #[.agg #[.int .i64 n, .int .i64 i, .int .i64 h], .agg #[.int .i64 m, .int .i64 j, .int .i64 k]] w fun e w' => e = .returned (.int .i64 r) ∧ Below w.heap.size w w' := by
  obtain ⟨la, hla⟩ : ∃ la : Int, la = if h = 4 then 1 else 0 := ⟨_, rfl⟩
  obtain ⟨lb, hlb⟩ : ∃ lb : Int, lb = if k = 4 then 1 else 0 := ⟨_, rfl⟩
  have HA := Hid.mk_ hla
  have HB := Hid.mk_ hlb
  have la0 : 0 ≤ la ∧ la ≤ 1 := by rw [hla]; split <;> omega
  have lb0 : 0 ≤ lb ∧ lb ≤ 1 := by rw [hlb]; split <;> omega
  have ha4 : la = 0 ↔ ¬ h = 4 := by rw [hla]; split <;> simp_all
  have hb4 : lb = 0 ↔ ¬ k = 4 := by rw [hlb]; split <;> simp_all
  obtain ⟨s, hs⟩ : ∃ s, s = la + lb := ⟨_, rfl⟩
  have ws : IntKind.i64.wrap (la + lb) = s := by rw [IntWalk.i64_in _ (by omega), hs]
  obtain ⟨d, hd⟩ : ∃ d, d = la - lb := ⟨_, rfl⟩
  have wd : IntKind.i64.wrap (la - lb) = d := by rw [IntWalk.i64_in _ (by omega), hd]
  have hres : r = if 0 < s then d else if cmpI i j = 0 then cmpI h k else cmpI i j := by
    rw [hr.out]
    by_cases h4 : h = 4
    · have e1 : la = 1 := by rw [hla, if_pos h4]
      rw [if_pos (by omega)]
      by_cases k4 : k = 4
      · have e2 : lb = 1 := by rw [hlb, if_pos k4]
        simp [cmpC, h4, k4]; omega
      · have e2 : lb = 0 := by rw [hlb, if_neg k4]
        simp [cmpC, h4, k4]; omega
    · have e1 : la = 0 := by rw [hla, if_neg h4]
      by_cases k4 : k = 4
      · have e2 : lb = 1 := by rw [hlb, if_pos k4]
        rw [if_pos (by omega)]
        simp [cmpC, h4, k4]; omega
      · have e2 : lb = 0 := by rw [hlb, if_neg k4]
        rw [if_neg (by omega), cmp_or i h j k h4 k4]
  clear hla hlb la0 lb0 ha4 hb4 hs hd hr
  obtain ⟨wb, hwb, aw, lq1, lq2, x0, x1, x2, y0, y1, y2⟩ : ∃ wb : World, wb = ((w.alloc (.cells #[.int .i64 n, .int .i64 i, .int .i64 h] 30)).alloc (.cells #[.int .i64 m, .int .i64 j, .int .i64 k] 30)) ∧ Below w.heap.size w wb ∧ w.heap.size < wb.heap.size ∧ w.heap.size + 1 < wb.heap.size ∧
      wb.cell? ⟨w.heap.size, 0, none⟩ = some (.int .i64 n) ∧ wb.cell? ⟨w.heap.size, 1, none⟩ = some (.int .i64 i) ∧ wb.cell? ⟨w.heap.size, 2, none⟩ = some (.int .i64 h) ∧
      wb.cell? ⟨w.heap.size + 1, 0, none⟩ = some (.int .i64 m) ∧ wb.cell? ⟨w.heap.size + 1, 1, none⟩ = some (.int .i64 j) ∧ wb.cell? ⟨w.heap.size + 1, 2, none⟩ = some (.int .i64 k) := by
    have a1 := (Below.refl w.heap.size w).alloc (Nat.le_refl _) (.cells #[.int .i64 n, .int .i64 i, .int .i64 h] 30)
    have a2 := (Below.refl (w.alloc (.cells #[.int .i64 n, .int .i64 i, .int .i64 h] 30)).heap.size (w.alloc (.cells #[.int .i64 n, .int .i64 i, .int .i64 h] 30))).alloc (Nat.le_refl _) (.cells #[.int .i64 m, .int .i64 j, .int .i64 k] 30)
    have k1 : ∀ o v, (w.alloc (.cells #[.int .i64 n, .int .i64 i, .int .i64 h] 30)).cell? ⟨w.heap.size, o, none⟩ = some v → ((w.alloc (.cells #[.int .i64 n, .int .i64 i, .int .i64 h] 30)).alloc (.cells #[.int .i64 m, .int .i64 j, .int .i64 k] 30)).cell? ⟨w.heap.size, o, none⟩ = some v := fun o v h => (a2.cell (World.block_lt_of_cell? _ _ h)).trans h
    have e : (w.alloc (.cells #[.int .i64 n, .int .i64 i, .int .i64 h] 30)).heap.size = w.heap.size + 1 := by simp
    refine ⟨_, rfl, a1.trans (a2.mono a1.size), by (simp <;> omega), by (simp <;> omega), k1 _ _ ?_, k1 _ _ ?_, k1 _ _ ?_, ?_, ?_, ?_⟩ <;> (try rw [← e]) <;> (rw [World.cell?_alloc_new]; rfl)
  go_enter Tryz.func59, Tryz.ntmps59
  go_upto_region 1 with fail
  have HW := Hid.mk_ aw
  clear aw
  rw [← hwb]
  clear hwb
  refine wp_draws _ (Below.refl _ _) (by kernel_rfl) (by kernel_rfl) (fun hne hN => ?_)
  repeat (go_big_quiet_step (first | (go_at_call 82; with_reducible exact After.calls (left1 n i h _ la HA)) | (go_at_call 82; with_reducible exact After.calls (left1 m j k _ lb HB))))
  refine wpQuiet_nil (after_cells ?_)
  intro w2 hb2 hc2
  have z0 := (hc2 _ 0 lq1).trans x0
  have z1 := (hc2 _ 1 lq1).trans x1
  have z2 := (hc2 _ 2 lq1).trans x2
  have u0 := (hc2 _ 0 lq2).trans y0
  have u1 := (hc2 _ 1 lq2).trans y1
  have u2 := (hc2 _ 2 lq2).trans y2
  have lz1 : w.heap.size < w2.heap.size := Nat.lt_of_lt_of_le lq1 hb2.size
  have lz2 : w.heap.size + 1 < w2.heap.size := Nat.lt_of_lt_of_le lq2 hb2.size
  have HW2 := Hid.mk_ (HW.out.trans (hb2.mono HW.out.size))
  clear x0 x1 x2 y0 y1 y2 lq1 lq2 hc2 hb2 HW
  by_cases hs : 0 < s
  · have e : r = d := by rw [hres, if_pos hs]
    subst e
    clear hres
    go_upto_region 3 with fail
    refine wp_draws w2 (Below.refl _ _) (by kernel_rfl) (by kernel_rfl) (fun hne hN => ?_)
    repeat (go_big_quiet_step (first | (go_at_call 82; with_reducible exact After.calls (left1 n i h _ la HA)) | (go_at_call 82; with_reducible exact After.calls (left1 m j k _ lb HB))))
    refine wpQuiet_nil (after_cells ?_)
    intro w3 hb3 hc3
    go_wp2_with fail
    go_ret
    exact ⟨rfl, HW2.out.trans (hb3.mono HW2.out.size)⟩
  · obtain ⟨p, hp⟩ : ∃ p, p = cmpI i j := ⟨_, rfl⟩
    obtain ⟨v, hv⟩ : ∃ v, v = cmpI h k := ⟨_, rfl⟩
    have HR : Hid (r = if p = 0 then v else p) := Hid.mk_ (by rw [hres, if_neg hs, hp, hv])
    have HP := Hid.mk_ hp
    have HV := Hid.mk_ hv
    clear hres hp hv
    have d0 : Hid ((w2.alloc (.cells #[.int .i64 p, .int .i64 v] 3)).cell? ⟨w2.heap.size, 0, none⟩ = some (.int .i64 p)) := Hid.mk_ (by rw [World.cell?_alloc_new]; rfl)
    have d1 : Hid ((w2.alloc (.cells #[.int .i64 p, .int .i64 v] 3)).cell? ⟨w2.heap.size, 1, none⟩ = some (.int .i64 v)) := Hid.mk_ (by rw [World.cell?_alloc_new]; rfl)
    go_upto_region 4 with fail
    go_region_held3 (fun w' => (w'.cell? ⟨w.heap.size, 1, none⟩ = some (.int .i64 i) ∧ w'.cell? ⟨w.heap.size, 2, none⟩ = some (.int .i64 h)) ∧ w'.cell? ⟨w.heap.size + 1, 1, none⟩ = some (.int .i64 j) ∧ w'.cell? ⟨w.heap.size + 1, 2, none⟩ = some (.int .i64 k)) (first | exact ⟨⟨by assumption, by assumption⟩, by assumption, by assumption⟩ | go_keep) (first
      | (go_at_call 84; have _t := tok1; refine (cmp1 h k _ v HV).mono ?_; rintro e w3 ⟨rfl, rfl⟩)
      | (go_at_call 84; refine (cmp1 i j _ p HP).mono ?_; rintro e w3 ⟨rfl, rfl⟩; have tok1 : True := trivial)
      | (go_at_call 83; refine (or1 _ _ p v _ (by exact d0.out) (by exact d1.out) r HR).mono ?_; rintro e w3 ⟨rfl, rfl⟩)
      | fail)
    go_wp2_with fail
    go_ret
    exact ⟨rfl, (HW2.out.alloc HW2.out.size _).drew⟩
end Go.Proofs.YthndjhocmpelcaaGreat.Hth
namespace Go.Proofs.YthndjhocmpelcaaGreat.Heap
/-- An order: of two the one is ahead of the other, or neither is. -/
structure Ordr {α : Type} (lt : α → α → Bool) : Prop where
  asym : ∀ a b, lt a b = true → lt b a = false
  ntrans : ∀ a b c, lt a b = false → lt b c = false → lt a c = false
section
variable {α : Type} {lt : α → α → Bool}
theorem Ordr.le_of_lt (h : Ordr lt) {a b : α} (hl : lt a b = true) : lt b a = false := h.asym a b hl
theorem Ordr.irrefl (h : Ordr lt) (a : α) : lt a a = false := by
  cases e : lt a a with
  | false => rfl
  | true => have := h.asym a a e; rw [e] at this; cases this
def par (k : Nat) : Nat := (k - 1) / 2
def swap (f : Nat → α) (i j : Nat) (k : Nat) : α := if k = i then f j else if k = j then f i else f k
/-- A heap of n. -/
def IsH (lt : α → α → Bool) (f : Nat → α) (n : Nat) : Prop := ∀ k, 0 < k → k < n → lt (f k) (f (par k)) = false
/-- But that j may be ahead of its parent. -/
def UpH (lt : α → α → Bool) (f : Nat → α) (n j : Nat) : Prop :=
  (∀ k, 0 < k → k < n → k ≠ j → lt (f k) (f (par k)) = false) ∧ ∀ k, 0 < k → k < n → par k = j → 0 < j → lt (f k) (f (par j)) = false
/-- But that j's children may be ahead of it. -/
def DnH (lt : α → α → Bool) (f : Nat → α) (n j : Nat) : Prop :=
  (∀ k, 0 < k → k < n → par k ≠ j → lt (f k) (f (par k)) = false) ∧ ∀ k, 0 < k → k < n → par k = j → 0 < j → lt (f k) (f (par j)) = false
theorem par_lt {k : Nat} (h : 0 < k) : par k < k := by unfold par; omega
theorem UpH.done0 {f : Nat → α} {n : Nat} (h : UpH lt f n 0) : IsH lt f n := fun k h0 h1 => h.1 k h0 h1 (by omega)
theorem UpH.done {f : Nat → α} {n j : Nat} (h : UpH lt f n j) (hj : lt (f j) (f (par j)) = false) : IsH lt f n := fun k h0 h1 => by
  by_cases e : k = j
  · subst e; exact hj
  · exact h.1 k h0 h1 e
theorem UpH.step (o : Ordr lt) {f : Nat → α} {n j : Nat} (h : UpH lt f n j) (h0 : 0 < j) (hj : j < n) (hl : lt (f j) (f (par j)) = true) : UpH lt (swap f (par j) j) n (par j) := by
  have hp := par_lt h0
  refine ⟨fun k k0 kn kj => ?_, fun k k0 kn kp p0 => ?_⟩
  · by_cases e : k = j
    · subst e
      have h1 : swap f (par k) k k = f (par k) := by unfold swap; rw [if_neg (by omega), if_pos rfl]
      have h2 : swap f (par k) k (par k) = f k := by unfold swap; rw [if_pos rfl]
      rw [h1, h2]
      exact o.asym _ _ hl
    · have h1 : swap f (par j) j k = f k := by unfold swap; rw [if_neg kj, if_neg e]
      rw [h1]
      by_cases e2 : par k = par j
      · rw [e2]
        have h2 : swap f (par j) j (par j) = f j := by unfold swap; rw [if_pos rfl]
        rw [h2]
        have h3 := h.1 k k0 kn e
        rw [e2] at h3
        exact o.ntrans _ _ _ h3 (o.asym _ _ hl)
      · by_cases e3 : par k = j
        · rw [e3]
          have h2 : swap f (par j) j j = f (par j) := by unfold swap; rw [if_neg (by omega), if_pos rfl]
          rw [h2]
          exact h.2 k k0 kn e3 h0
        · have h2 : swap f (par j) j (par k) = f (par k) := by unfold swap; rw [if_neg e2, if_neg e3]
          rw [h2]
          exact h.1 k k0 kn e
  · have hpp := par_lt p0
    have h2 : swap f (par j) j (par (par j)) = f (par (par j)) := by unfold swap; rw [if_neg (by omega), if_neg (by omega)]
    rw [h2]
    have h3 := h.1 (par j) p0 (by omega) (by omega)
    by_cases e : k = j
    · subst e
      have h1 : swap f (par k) k k = f (par k) := by unfold swap; rw [if_neg (by omega), if_pos rfl]
      rw [h1]
      exact h3
    · have kp' := par_lt k0
      have h1 : swap f (par j) j k = f k := by unfold swap; rw [if_neg (by omega), if_neg e]
      rw [h1]
      have h4 := h.1 k k0 kn e
      rw [kp] at h4
      exact o.ntrans _ _ _ h4 h3
/-- j's lesser child. -/
def kid (lt : α → α → Bool) (f : Nat → α) (n i : Nat) : Nat := if 2 * i + 2 < n ∧ lt (f (2 * i + 2)) (f (2 * i + 1)) = true then 2 * i + 2 else 2 * i + 1
theorem kid_par (f : Nat → α) (n i : Nat) : par (kid lt f n i) = i ∧ i < kid lt f n i := by unfold kid par; split <;> omega
theorem kid_lt {f : Nat → α} {n i : Nat} (h : 2 * i + 1 < n) : kid lt f n i < n := by unfold kid; split <;> omega
theorem kid_le (o : Ordr lt) (f : Nat → α) (n i k : Nat) (k0 : 0 < k) (kn : k < n) (hk : par k = i) : lt (f k) (f (kid lt f n i)) = false := by
  have : k = 2 * i + 1 ∨ k = 2 * i + 2 := by unfold par at hk; omega
  unfold kid
  split
  · rename_i h
    rcases this with rfl | rfl
    · exact o.asym _ _ h.2
    · exact o.irrefl _
  · rename_i h
    rcases this with rfl | rfl
    · exact o.irrefl _
    · cases e : lt (f (2 * i + 2)) (f (2 * i + 1)) with
      | false => rfl
      | true => exact absurd ⟨kn, e⟩ h
theorem DnH.none_ {f : Nat → α} {n i : Nat} (h : DnH lt f n i) (hi : ¬ 2 * i + 1 < n) : IsH lt f n := fun k k0 kn => by
  by_cases e : par k = i
  · have : k = 2 * i + 1 ∨ k = 2 * i + 2 := by unfold par at e; omega
    omega
  · exact h.1 k k0 kn e
theorem DnH.done (o : Ordr lt) {f : Nat → α} {n i : Nat} (h : DnH lt f n i) (hi : lt (f (kid lt f n i)) (f i) = false) : IsH lt f n := fun k k0 kn => by
  by_cases e : par k = i
  · rw [e]
    exact o.ntrans _ _ _ (kid_le o f n i k k0 kn e) hi
  · exact h.1 k k0 kn e
theorem DnH.step (o : Ordr lt) {f : Nat → α} {n i : Nat} (h : DnH lt f n i) (hn : 2 * i + 1 < n) (hl : lt (f (kid lt f n i)) (f i) = true) : DnH lt (swap f i (kid lt f n i)) n (kid lt f n i) := by
  obtain ⟨hp, hi⟩ := kid_par (lt := lt) f n i
  have hle := kid_le o f n i
  have hkn := kid_lt (lt := lt) (f := f) hn
  generalize kid lt f n i = j at *
  have s1 : swap f i j j = f i := by unfold swap; rw [if_neg (by omega), if_pos rfl]
  have s2 : swap f i j i = f j := by unfold swap; rw [if_pos rfl]
  have s3 : ∀ k, k ≠ i → k ≠ j → swap f i j k = f k := fun k h1 h2 => by unfold swap; rw [if_neg h1, if_neg h2]
  refine ⟨fun k k0 kn kj => ?_, fun k k0 kn kp _ => ?_⟩
  · by_cases e : k = j
    · subst e
      rw [hp, s1, s2]
      exact o.asym _ _ hl
    · by_cases e2 : par k = i
      · rw [e2, s2, s3 k (by have := par_lt k0; omega) e]
        exact hle k k0 kn e2
      · rw [s3 (par k) e2 kj]
        by_cases e3 : k = i
        · subst e3
          rw [s2]
          exact h.2 j (by omega) hkn hp k0
        · rw [s3 k e3 e]
          exact h.1 k k0 kn e2
  · have := par_lt k0
    rw [hp, s2, s3 k (by omega) (by omega)]
    have h2 := h.1 k k0 kn (by omega)
    rwa [kp] at h2
/-- What stands at i is another one. -/
def AtH (lt : α → α → Bool) (f : Nat → α) (n i : Nat) : Prop :=
  (∀ k, 0 < k → k < n → k ≠ i → par k ≠ i → lt (f k) (f (par k)) = false) ∧ ∀ k, 0 < k → k < n → par k = i → 0 < i → lt (f k) (f (par i)) = false
theorem AtH.up {f : Nat → α} {n i : Nat} (h : AtH lt f n i) (hk : ∀ k, 0 < k → k < n → par k = i → lt (f k) (f i) = false) : UpH lt f n i :=
  ⟨fun k k0 kn ki => by
    by_cases e : par k = i
    · rw [e]; exact hk k k0 kn e
    · exact h.1 k k0 kn ki e, h.2⟩
theorem AtH.down (o : Ordr lt) {f : Nat → α} {n i : Nat} (h : AtH lt f n i) (hn : 2 * i + 1 < n) (hl : lt (f (kid lt f n i)) (f i) = true) : DnH lt (swap f i (kid lt f n i)) n (kid lt f n i) := by
  obtain ⟨hp, hi⟩ := kid_par (lt := lt) f n i
  have hle := kid_le o f n i
  have hkn := kid_lt (lt := lt) (f := f) hn
  generalize kid lt f n i = j at *
  have s1 : swap f i j j = f i := by unfold swap; rw [if_neg (by omega), if_pos rfl]
  have s2 : swap f i j i = f j := by unfold swap; rw [if_pos rfl]
  have s3 : ∀ k, k ≠ i → k ≠ j → swap f i j k = f k := fun k h1 h2 => by unfold swap; rw [if_neg h1, if_neg h2]
  refine ⟨fun k k0 kn kj => ?_, fun k k0 kn kp _ => ?_⟩
  · by_cases e : k = j
    · subst e
      rw [hp, s1, s2]
      exact o.asym _ _ hl
    · by_cases e2 : par k = i
      · rw [e2, s2, s3 k (by have := par_lt k0; omega) e]
        exact hle k k0 kn e2
      · rw [s3 (par k) e2 kj]
        by_cases e3 : k = i
        · subst e3
          rw [s2]
          exact h.2 j (by omega) hkn hp k0
        · rw [s3 k e3 e]
          exact h.1 k k0 kn e3 e2
  · have := par_lt k0
    rw [hp, s2, s3 k (by omega) (by omega)]
    have h2 := h.1 k k0 kn (by omega) (by omega)
    rwa [kp] at h2
/-- Nothing is ahead of what is on top. -/
theorem IsH.top (o : Ordr lt) {f : Nat → α} {n : Nat} (h : IsH lt f n) : ∀ k, k < n → lt (f k) (f 0) = false := by
  intro k
  induction k using Nat.strongRecOn with
  | _ k ih =>
    intro kn
    by_cases k0 : k = 0
    · subst k0; exact o.irrefl _
    · have hp := par_lt (k := k) (by omega)
      exact o.ntrans _ _ _ (h k (by omega) kn) (ih (par k) hp (by omega))
end
end Go.Proofs.YthndjhocmpelcaaGreat.Heap
namespace Go.Proofs.YthndjhocmpelcaaGreat.Rowz
open Go.RowKit Kit
set_option linter.unusedVariables false
section
variable {P : Program}
theorem app1 (w : World) (T E ty : TypeId) (i0 : TypeInfo) (z : Value) (s bs : Nat) (hT : P.underlying T = some (.slice E)) (hi : P.info? E = some i0) (hz0 : i0.zero = some z) (hz1 : i0.size = s) (hz2 : i0.bytes = bs) (hzs : z.cells.size = s) (hs : 0 < s)
    (base : Nat) (v : Value) (n : Nat) (xs : List Value) (hown : w.ownsRow base E s v n xs) (ad : Addr) (c : Nat) (ys : List Value) (hl : ys.length = s) (hat : ∀ j u, ys[j]? = some u → w.cell? (ad.add j) = some u) (h1 : ∀ u ∈ ys, u.oneCell' = true)
    (hn : n ≤ 100000) (hbs : bs ≤ 10000) (hbase : base ≤ w.heap.size) :
    ∃ v' w', (Builtin.append_ #[T, T] ty #[v, .slice (some ad) 1 c]).run P w = .ok v' w' ∧ w'.ownsRow base E s v' (n + 1) (xs ++ ys) ∧ w.grownBy w' v.ownBlock ∧ (v'.ownBlock = v.ownBlock ∨ ∀ k, v'.ownBlock = some k → w.heap.size ≤ k) := by
  have hb : (n + 1) * bs ≤ 140737488355328 := Nat.le_trans (Nat.mul_le_mul (Nat.succ_le_succ hn) hbs) (by omega)
  obtain ⟨v', w', hr, h2, h3, h4⟩ := run_append_own (P := P) w base T ty E i0 z s bs hT hi hz0 hz1 hz2 hzs hs v n xs hown ad 1 c ys (by rw [hl, Nat.one_mul]) hat h1 (by unfold maxLen; omega) hb hbase
  refine ⟨v', w', hr, h2, h3, ?_⟩
  rcases hown.2 with ⟨rfl, h0⟩ | ⟨g, cap, cur, rfl, hbg, hg, hnc, hcm, hcs, htake⟩
  · right
    have h5 := run_append_nil (P := P) w T ty E i0 z hT hi hz0 ad 1 c ys (by rw [hl, hz1, Nat.one_mul]) hat (by omega) (by omega) (by rw [hz2]; omega)
    rw [hr] at h5
    injection h5 with e1 e2
    subst e1
    intro k hk
    simp [Value.ownBlock] at hk
    omega
  · by_cases hroom : n + 1 ≤ cap
    · left
      obtain ⟨w2, h5, _⟩ := run_append_fits (P := P) w base T ty E i0 s hT hi hz1 g n cap xs hown ad 1 c ys (by rw [hl, Nat.one_mul]) hat h1 hroom
      rw [hr] at h5
      simp only [Result.ok.injEq] at h5
      rw [h5.1]
      simp only [Value.ownBlock]
    · right
      have holds : ∀ j u, xs[j]? = some u → w.cell? ((⟨g, 0, none⟩ : Addr).add j) = some u := World.ownsRow.cells hown (g := g) rfl
      have h5 := run_append_grow (P := P) w T ty E i0 z hT hi hz0 ⟨g, 0, none⟩ n cap xs (by rw [hown.1, hz1]) holds ad 1 c ys (by rw [hl, hz1, Nat.one_mul]) hat (by omega) (by omega) (by rw [hz2]; exact growslice_fits (by omega) hb)
      rw [hr] at h5
      injection h5 with e1 e2
      subst e1
      intro k hk
      simp [Value.ownBlock] at hk
      omega
/-- What an append of one leaves. -/
structure Got (w w' : World) (base : Nat) (E : TypeId) (s : Nat) (v v' : Value) (n : Nat) (xs : List Value) : Prop where
  own : w'.ownsRow base E s v' n xs
  gb : w.grownBy w' v.ownBlock
  at_ : v'.ownBlock = v.ownBlock ∨ ∀ k, v'.ownBlock = some k → w.heap.size ≤ k
theorem wpList_app1 (w : World) {ops : Array Oper} {rest : List Oper} {o : Oper} {a : Act} {Q : Exit → Act → World → Prop} (hgd : o.guard = none) (x y : Operand) (T E : TypeId)
    (ho : o.op = .call { callee := .builtin .append, args := #[x, y], argTypes := #[T, T] })
    (i0 : TypeInfo) (z : Value) (s bs : Nat) (hT : P.underlying T = some (.slice E)) (hi : P.info? E = some i0) (hz0 : i0.zero = some z) (hz1 : i0.size = s) (hz2 : i0.bytes = bs) (hzs : z.cells.size = s) (hs : 0 < s)
    (base : Nat) (v : Value) (n : Nat) (xs : List Value) (hx : a.eval x = v) (hown : w.ownsRow base E s v n xs) (ad : Addr) (c : Nat) (ys : List Value) (hy : a.eval y = .slice (some ad) 1 c) (hl : ys.length = s) (hat : ∀ j u, ys[j]? = some u → w.cell? (ad.add j) = some u) (h1 : ∀ u ∈ ys, u.oneCell' = true)
    (hn : n ≤ 100000) (hbs : bs ≤ 10000) (hbase : base ≤ w.heap.size)
    (h : ∀ v' w', Hid (Got w w' base E s v v' (n + 1) (xs ++ ys)) → wpList P ops Q rest (a.put o.dst v') w') : wpList P ops Q (o :: rest) a w :=
  wpList_plain hgd fun _ hK => by
    obtain ⟨v', w', hr, h2, h3, h4⟩ := app1 w T E o.type i0 z s bs hT hi hz0 hz1 hz2 hzs hs base v n xs hown ad c ys hl hat h1 hn hbs hbase
    unfold Oper.wp execOp
    simp only [ho, resolve, invoke, builtin, Sem.run_bind, Sem.run_pure, Result.andThen_ok, List.map_toArray, List.map_cons, List.map_nil, hx, hy, hr]
    exact hK _ _ (h v' w' ⟨h2, h3, h4⟩)
theorem blk {w : World} {base : Nat} {E : TypeId} {s : Nat} {v : Value} {n : Nat} {xs : List Value} (h : w.ownsRow base E s v n xs) : ∀ k, v.ownBlock = some k → base ≤ k ∧ k < w.heap.size := fun k hk => World.ownsRow.lt h k hk
theorem form {w : World} {base : Nat} {E : TypeId} {s : Nat} {v : Value} {n : Nat} {xs : List Value} (h : w.ownsRow base E s v n xs) : ∃ A c, v = .slice A n c ∧ n ≤ c ∧ c ≤ 9223372036854775807 ∧ ((A = none ∧ c = 0 ∧ n = 0) ∨ ∃ b, A = some ⟨b, 0, none⟩ ∧ base ≤ b ∧ b < w.heap.size) := by
  rcases h.2 with ⟨rfl, rfl⟩ | ⟨g, cap, cur, h1, h3, h4, h5, h6, _⟩
  · exact ⟨none, 0, rfl, Nat.le_refl _, by omega, .inl ⟨rfl, rfl, rfl⟩⟩
  · exact ⟨_, cap, h1, h5, by unfold maxLen at h6; omega, .inr ⟨g, rfl, h3, (Array.getElem?_eq_some_iff.1 h4).1⟩⟩
/-- A row is kept where its own block is. -/
theorem keep {w w' : World} {base : Nat} {E : TypeId} {s : Nat} {v : Value} {n : Nat} {xs : List Value} (h : w.ownsRow base E s v n xs) (hb : ∀ k, v.ownBlock = some k → k < w.heap.size → w'.heap[k]? = w.heap[k]?) : w'.ownsRow base E s v n xs := by
  refine ⟨h.1, ?_⟩
  rcases h.2 with h1 | ⟨g, cap, cur, rfl, h3, h4, h5⟩
  · exact .inl h1
  · exact .inr ⟨g, cap, cur, rfl, h3, (hb g rfl (Array.getElem?_eq_some_iff.1 h4).1).trans h4, h5⟩
theorem below {w w' : World} {base : Nat} {E : TypeId} {s : Nat} {v : Value} {n : Nat} {xs : List Value} (h : w.ownsRow base E s v n xs) (hb : Below w.heap.size w w') : w'.ownsRow base E s v n xs := keep h fun k _ hk => hb.block k hk
theorem nil (w : World) (base : Nat) (E : TypeId) (s : Nat) : w.ownsRow base E s (.slice none 0 0) 0 [] := World.ownsRow_nil _ _ _ _
theorem Got.below {w w' : World} {base : Nat} {E : TypeId} {s : Nat} {v v' : Value} {n m : Nat} {xs ys : List Value} (h : Got w w' base E s v v' n xs) (ho : w.ownsRow base E s v m ys) (hb : base ≤ w.heap.size) : Below base w w' :=
  (Below.refl _ _).grown h.gb hb (fun j hj => (blk ho j hj).1)
/-- Another row, apart from it, stays. -/
theorem Got.other {w w' : World} {base base2 : Nat} {E F : TypeId} {s t : Nat} {v v' u : Value} {n m : Nat} {xs ys : List Value} (h : Got w w' base E s v v' n xs) (ho : w.ownsRow base2 F t u m ys) (hd : ∀ k, v.ownBlock = some k → u.ownBlock ≠ some k) : w'.ownsRow base2 F t u m ys :=
  keep ho fun k hk hlt => h.gb.block k hlt (fun e => hd k e.symm hk)
theorem Got.apart {w w' : World} {base base2 : Nat} {E F : TypeId} {s t : Nat} {v v' u : Value} {n m : Nat} {xs ys : List Value} (h : Got w w' base E s v v' n xs) (ho : w.ownsRow base2 F t u m ys) (hd : ∀ k, v.ownBlock = some k → u.ownBlock ≠ some k) : ∀ k, v'.ownBlock = some k → u.ownBlock ≠ some k := fun k hk hu => by
  rcases h.at_ with h1 | h1
  · rw [h1] at hk; exact hd k hk hu
  · have := h1 k hk; have := (blk ho k hu).2; omega
theorem info_parts {i : Option TypeInfo} {z : Value} {size bytes : Nat} (h : i.map (fun i => (i.zero, i.size, i.bytes)) = some (some z, size, bytes)) : ∃ i0, i = some i0 ∧ i0.zero = some z ∧ i0.size = size ∧ i0.bytes = bytes := by
  cases i with
  | none => cases h
  | some i0 => simp at h; exact ⟨i0, rfl, h.1, h.2.1, h.2.2⟩
end
end Go.Proofs.YthndjhocmpelcaaGreat.Rowz
namespace Go.Proofs.YthndjhocmpelcaaGreat.Tri3
open Go.RowKit Kit
/-- Three numbers. -/
structure Cl where
  n : Int
  i : Int
  h : Int
/-- The claims lie from A on. -/
def ClAt (w : World) (A : Option Addr) (ls : List Cl) : Prop :=
  ∀ (i : Nat) (c : Cl), ls[i]? = some c → ∃ b off, A = some ⟨b, off, none⟩ ∧ b < w.heap.size ∧ w.cell? ⟨b, off + i * 3, none⟩ = some (.int .i64 c.n) ∧ w.cell? ⟨b, off + i * 3 + 1, none⟩ = some (.int .i64 c.i) ∧ w.cell? ⟨b, off + i * 3 + 2, none⟩ = some (.int .i64 c.h)
def shC : Sh := .pair (.int .i64) (.pair (.int .i64) (.pair (.int .i64) .unit))
theorem rd_three {w : World} {es : List Value} (h : RD w shC es) : ∃ x y z, es = [.int .i64 x, .int .i64 y, .int .i64 z] := by
  obtain ⟨_, _, rfl, _, g0, h0⟩ := rd_pair h
  obtain ⟨x, rfl, _⟩ := rd_int g0
  obtain ⟨_, _, rfl, _, g1, h1⟩ := rd_pair h0
  obtain ⟨y, rfl, _⟩ := rd_int g1
  obtain ⟨_, _, rfl, _, g2, h2⟩ := rd_pair h1
  obtain ⟨z, rfl, _⟩ := rd_int g2
  obtain rfl := rd_unit h2
  exact ⟨x, y, z, rfl⟩
theorem list_of (P : Nat → Cl → Prop) : ∀ n, (∀ i, i < n → ∃ c, P i c) → ∃ ls : List Cl, ls.length = n ∧ ∀ (i : Nat) (c : Cl), ls[i]? = some c → P i c
  | 0, _ => ⟨[], rfl, fun i c h => by simp at h⟩
  | n + 1, h => by
    obtain ⟨ls, hl, hp⟩ := list_of P n (fun i hi => h i (by omega))
    obtain ⟨c, hc⟩ := h n (by omega)
    refine ⟨ls ++ [c], by simp [hl], fun i d hd => ?_⟩
    by_cases hi : i < n
    · rw [List.getElem?_append_left (by omega)] at hd
      exact hp i d hd
    · rw [List.getElem?_append_right (by omega)] at hd
      have : i = n := by
        have := (List.getElem?_eq_some_iff.1 hd).1
        simp at this; omega
      subst this
      rw [hl] at hd
      simp at hd
      subst hd
      exact hc
theorem add_off (a : Addr) (k : Nat) (h : a.spot = none) : a.add k = ⟨a.block, a.off + k, none⟩ := by
  obtain ⟨b, o, s⟩ := a
  simp only at h
  subst h
  unfold Addr.add
  split
  · simp_all
  · rfl
theorem rd_claims {w : World} {A : Option Addr} {n c : Nat} (h : RD w (.slice shC) [.slice A n c]) : ∃ ls : List Cl, ls.length = n ∧ ClAt w A ls ∧ n ≤ c ∧ c ≤ maxLen := by
  rcases h with h | ⟨a, len, cap, h, hl, hm, hi⟩
  · simp only [List.cons.injEq, Value.slice.injEq, and_true] at h
    obtain ⟨rfl, rfl, rfl⟩ := h
    exact ⟨[], rfl, fun i c h => by simp at h, Nat.le_refl _, by simp [maxLen]⟩
  · simp only [List.cons.injEq, Value.slice.injEq, and_true] at h
    obtain ⟨rfl, rfl, rfl⟩ := h
    obtain ⟨ls, hls, hp⟩ := list_of (fun i c => ∃ b off, some a = some ⟨b, off, none⟩ ∧ b < w.heap.size ∧ w.cell? ⟨b, off + i * 3, none⟩ = some (.int .i64 c.n) ∧ w.cell? ⟨b, off + i * 3 + 1, none⟩ = some (.int .i64 c.i) ∧ w.cell? ⟨b, off + i * 3 + 2, none⟩ = some (.int .i64 c.h)) n (fun i hin => by
      obtain ⟨es, hel, hat, hr⟩ := hi i hin
      obtain ⟨x, y, z, rfl⟩ := rd_three hr
      have e3 : shC.size = 3 := rfl
      rw [e3] at hat
      have h0 := hat 0 (by omega)
      have h1 := hat 1 (by omega)
      have h2 := hat 2 (by omega)
      have hs : a.spot = none := by
        cases hsp : a.spot with
        | none => rfl
        | some v =>
          obtain ⟨es0, _, hat0, hr0⟩ := hi 0 (by omega)
          obtain ⟨x0, y0, z0, rfl⟩ := rd_three hr0
          have := hat0 0 (by rw [e3]; omega)
          rw [e3] at this
          unfold Addr.add at this
          simp [World.cell?, hsp] at this
          split at this <;> simp at this
      rw [add_off a _ hs] at h0 h1 h2
      refine ⟨⟨x, y, z⟩, a.block, a.off, ?_, ?_, ?_, ?_, ?_⟩
      · obtain ⟨b, o, s⟩ := a; simp only at hs; subst hs; rfl
      · exact World.block_lt_of_cell? (w := w) (a := ⟨a.block, a.off + (i * 3 + 0), none⟩) h0
      · rw [Nat.add_zero] at h0; exact h0
      · rw [Nat.add_assoc]; exact h1
      · rw [Nat.add_assoc]; exact h2)
    exact ⟨ls, hls, hp, hl, hm⟩
theorem ClAt.keep {w w' : World} {A : Option Addr} {ls : List Cl} (h : ClAt w A ls) (hb : Below w.heap.size w w') : ClAt w' A ls := by
  intro i c hi
  obtain ⟨b, off, h1, h2, h3, h4, h5⟩ := h i c hi
  refine ⟨b, off, h1, Nat.lt_of_lt_of_le h2 hb.size, ?_, ?_, ?_⟩
  · rw [hb.cell (p := ⟨b, _, none⟩) h2]; exact h3
  · rw [hb.cell (p := ⟨b, _, none⟩) h2]; exact h4
  · rw [hb.cell (p := ⟨b, _, none⟩) h2]; exact h5
theorem take_snoc {l : List Cl} {k : Nat} {c : Cl} (h : l[k]? = some c) : l.take (k + 1) = l.take k ++ [c] := by
  rw [List.take_add_one, h]; rfl
end Go.Proofs.YthndjhocmpelcaaGreat.Tri3
