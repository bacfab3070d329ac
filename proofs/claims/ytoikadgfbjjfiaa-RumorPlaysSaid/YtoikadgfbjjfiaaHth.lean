/- Chapter 1: what may be claimed, what is louder: the program's functions. No condition. -/
import Derived.Test.YtoikadgfbjjfiaaProg
import Derived.Test.YtoikadgfbjjfiaaKit
import Derived.WalkKit
import Derived.Deep.LoopGhost
import Derived.Deep.Cut
import Derived.Deep.RegionHeld3
import Derived.BigRegion
namespace Go.Proofs.Ytoikadgfbjjfiaa.Hth
open Go.RowKit Kit
set_option linter.unusedVariables false
theorem Hid.mk0 {p : Prop} (h : p) : Hid p := h
def cmpI (a b : Int) : Int := if a < b then -1 else if b < a then 1 else 0
/-- How loud a claim is against another: the node's number takes no part. -/
def cmpC (i h j k : Int) : Int :=
  if h = 4 then (if k = 4 then 0 else 1) else if k = 4 then -1 else if i < j then -1 else if j < i then 1 else if h < k then -1 else if k < h then 1 else 0
def nodeB (n : Int) : Bool := decide (0 ≤ n ∧ n < 8)
def mayC (n i h : Int) : Bool := decide (0 ≤ n ∧ n < 8 ∧ (h = 0 ∧ i = 0 ∨ 0 ≤ i ∧ i ≤ 1000000 ∧ 1 ≤ h ∧ h ≤ 4))
theorem node1 (n : Int) (w : World) (q : Bool) (hq : Hid (q = nodeB n)) : Calls Try.prog 50 #[.int .i64 n] w fun e w' => e = .returned (.bool q) ∧ w' = w := by
  by_cases h0 : 0 ≤ n
  · by_cases h1 : n < 8
    · go_enter Try.func50, Try.ntmps50
      go_wp2_with fail
      go_ret
      exact ⟨by rw [hq.out]; simp [nodeB, h0, h1], rfl⟩
    · go_enter Try.func50, Try.ntmps50
      go_wp2_with fail
      go_ret
      exact ⟨by rw [hq.out]; simp [nodeB, h1], rfl⟩
  · go_enter Try.func50, Try.ntmps50
    go_wp2_with fail
    go_ret
    exact ⟨by rw [hq.out]; simp [nodeB]; omega, rfl⟩
theorem left1 (n i h : Int) (w : World) (r : Int) (hr : Hid (r = if h = 4 then 1 else 0)) : Calls Try.prog 51 #[.agg #[.int .i64 n, .int .i64 i, .int .i64 h]] w fun e w' => e = .returned (.int .i64 r) ∧ Below w.heap.size w w' := by
  by_cases h4 : h = 4
  · have e : r = 1 := by rw [hr.out, if_pos h4]
    have hb : (h == 4) = true := by simp [h4]
    subst e
    clear hr h4
    go_enter Try.func51, Try.ntmps51
    go_wp2_with fail
    go_ret
    exact ⟨rfl, (Below.refl _ w).alloc (Nat.le_refl _) _⟩
  · have e : r = 0 := by rw [hr.out, if_neg h4]
    have hb : (h == 4) = false := by simp [h4]
    subst e
    clear hr h4
    go_enter Try.func51, Try.ntmps51
    go_wp2_with fail
    go_ret
    exact ⟨rfl, (Below.refl _ w).alloc (Nat.le_refl _) _⟩
theorem nan1 (n : Int) (w : World) : Calls Try.prog 61 #[.int .i64 n] w fun e w' => e = .returned (.bool false) ∧ w' = w := by
  go_enter Try.func61, Try.ntmps61
  go_wp2_with fail
  go_ret
  exact ⟨by simp, rfl⟩
theorem cmp1 (a b : Int) (w : World) (r : Int) (hr : Hid (r = cmpI a b)) : Calls Try.prog 53 #[.int .i64 a, .int .i64 b] w fun e w' => e = .returned (.int .i64 r) ∧ w' = w := by
  by_cases h1 : a < b
  · have e : r = -1 := by rw [hr.out, cmpI, if_pos h1]
    subst e
    clear hr
    go_enter Try.func53, Try.ntmps53
    go_wp2_with (go_at_call 61; refine (nan1 _ _).mono ?_; rintro e w2 ⟨rfl, rfl⟩)
    go_ret
    exact ⟨rfl, rfl⟩
  · by_cases h2 : b < a
    · have e : r = 1 := by rw [hr.out, cmpI, if_neg h1, if_pos h2]
      subst e
      clear hr
      go_enter Try.func53, Try.ntmps53
      go_wp2_with (go_at_call 61; refine (nan1 _ _).mono ?_; rintro e w2 ⟨rfl, rfl⟩)
      go_ret
      exact ⟨rfl, rfl⟩
    · have e : r = 0 := by rw [hr.out, cmpI, if_neg h1, if_neg h2]
      subst e
      clear hr
      go_enter Try.func53, Try.ntmps53
      go_wp2_with (go_at_call 61; refine (nan1 _ _).mono ?_; rintro e w2 ⟨rfl, rfl⟩)
      go_ret
      exact ⟨rfl, rfl⟩
theorem or1 (q c : Nat) (x y : Int) (w : World) (h0 : w.cell? ⟨q, 0, none⟩ = some (.int .i64 x)) (h1 : w.cell? ⟨q, 1, none⟩ = some (.int .i64 y)) (r : Int) (hr : Hid (r = if x = 0 then y else x)) :
    Calls Try.prog 52 #[.slice (some ⟨q, 0, none⟩) 2 c] w fun e w' => e = .returned (.int .i64 r) ∧ w' = w := by
  go_enter Try.func52, Try.ntmps52
  go_wp2_with fail
  go_loopg [8] 2 (fun gg i wr => ∃ k : Nat, i = .int .i64 (k : Int) ∧ k ≤ 2 ∧ 2 - k ≤ gg ∧ wr = w ∧ Hid (0 < k → x = 0) ∧ Hid (1 < k → y = 0))
  case atStart => exact ⟨0, rfl, by omega, by omega, rfl, Hid.mk0 (by omega), Hid.mk0 (by omega)⟩
  case round =>
    obtain ⟨k, rfl, hk, hg, rfl, H0, H1⟩ := hrel
    obtain rfl | rfl | rfl : k = 0 ∨ k = 1 ∨ k = 2 := by omega
    · by_cases hx : x = 0
      · have hb : (x != 0) = false := by simp [hx]
        have HX := Hid.mk0 hx
        clear hx
        go_wp2_with fail
        go_roundg 1
        case measure => omega
        case rel => exact ⟨1, rfl, by omega, by omega, rfl, Hid.mk0 (fun _ => HX.out), Hid.mk0 (by omega)⟩
      · have hb : (x != 0) = true := by simp [hx]
        have e : x = r := by rw [hr.out, if_neg hx]
        subst e
        clear hr hx
        go_wp2_with fail
        go_ret
        exact ⟨rfl, rfl⟩
    · have hx := H0.out (by omega)
      have e : y = r := by rw [hr.out, if_pos hx]
      subst e
      clear hr hx
      by_cases hy : y = 0
      · have hb : (y != 0) = false := by simp [hy]
        have HY := Hid.mk0 hy
        clear hy
        go_wp2_with fail
        go_roundg 0
        case measure => omega
        case rel => exact ⟨2, rfl, by omega, by omega, rfl, Hid.mk0 (fun _ => H0.out (by omega)), Hid.mk0 (fun _ => HY.out)⟩
      · have hb : (y != 0) = true := by simp [hy]
        clear hy
        go_wp2_with fail
        go_ret
        exact ⟨rfl, rfl⟩
    · have e : r = 0 := by rw [hr.out, if_pos (H0.out (by omega)), H1.out (by omega)]
      subst e
      clear hr
      go_wp2_with fail
      go_ret
      exact ⟨rfl, rfl⟩
theorem may1 (n i h : Int) (w : World) (q : Bool) (hq : Hid (q = mayC n i h)) : Calls Try.prog 39 #[.agg #[.int .i64 n, .int .i64 i, .int .i64 h]] w fun e w' => e = .returned (.bool q) ∧ Below w.heap.size w w' := by
  cases hn : nodeB n with
  | false =>
    have e : q = false := by rw [hq.out]; unfold nodeB at hn; unfold mayC; simp only [decide_eq_false_iff_not] at hn ⊢; omega
    have HN := Hid.mk0 hn.symm
    subst e
    clear hq hn
    go_enter Try.func39, Try.ntmps39
    go_wp2_with (go_at_call 50; refine (node1 n _ false HN).mono ?_; rintro e w2 ⟨rfl, rfl⟩)
    go_ret
    exact ⟨rfl, (Below.refl _ w).alloc (Nat.le_refl _) _⟩
  | true =>
    have HN := Hid.mk0 hn.symm
    have hN : 0 ≤ n ∧ n < 8 := by unfold nodeB at hn; simpa using hn
    by_cases h0 : h = 0
    · have e : q = (i == 0) := by rw [hq.out]; unfold mayC; rw [Bool.eq_iff_iff]; simp; omega
      have hb : (h == 0) = true := by simp [h0]
      subst e
      clear hq hn hN h0
      go_enter Try.func39, Try.ntmps39
      go_wp2_with (go_at_call 50; refine (node1 n _ true HN).mono ?_; rintro e w2 ⟨rfl, rfl⟩)
      go_ret
      exact ⟨rfl, (Below.refl _ w).alloc (Nat.le_refl _) _⟩
    · have hb : (h == 0) = false := by simp [h0]
      by_cases i0 : 0 ≤ i
      · by_cases i1 : i ≤ 1000000
        · by_cases h1 : 1 ≤ h
          · have e : q = decide (h ≤ 4) := by rw [hq.out]; unfold mayC; rw [Bool.eq_iff_iff]; simp; omega
            subst e
            clear hq hn hN h0
            go_enter Try.func39, Try.ntmps39
            go_wp2_with (go_at_call 50; refine (node1 n _ true HN).mono ?_; rintro e w2 ⟨rfl, rfl⟩)
            go_ret
            exact ⟨rfl, (Below.refl _ w).alloc (Nat.le_refl _) _⟩
          · have e : q = false := by rw [hq.out]; unfold mayC; simp only [decide_eq_false_iff_not]; omega
            subst e
            clear hq hn hN h0
            go_enter Try.func39, Try.ntmps39
            go_wp2_with (go_at_call 50; refine (node1 n _ true HN).mono ?_; rintro e w2 ⟨rfl, rfl⟩)
            go_ret
            exact ⟨rfl, (Below.refl _ w).alloc (Nat.le_refl _) _⟩
        · have e : q = false := by rw [hq.out]; unfold mayC; simp only [decide_eq_false_iff_not]; omega
          subst e
          clear hq hn hN h0
          go_enter Try.func39, Try.ntmps39
          go_wp2_with (go_at_call 50; refine (node1 n _ true HN).mono ?_; rintro e w2 ⟨rfl, rfl⟩)
          go_ret
          exact ⟨rfl, (Below.refl _ w).alloc (Nat.le_refl _) _⟩
      · have e : q = false := by rw [hq.out]; unfold mayC; simp only [decide_eq_false_iff_not]; omega
        subst e
        clear hq hn hN h0
        go_enter Try.func39, Try.ntmps39
        go_wp2_with (go_at_call 50; refine (node1 n _ true HN).mono ?_; rintro e w2 ⟨rfl, rfl⟩)
        go_ret
        exact ⟨rfl, (Below.refl _ w).alloc (Nat.le_refl _) _⟩
theorem cmp_or (i h j k : Int) (h4 : h ≠ 4) (k4 : k ≠ 4) : cmpC i h j k = if cmpI i j = 0 then cmpI h k else cmpI i j := by
  unfold cmpC cmpI
  rw [if_neg h4, if_neg k4]
  by_cases h1 : i < j
  · simp [h1]
  · by_cases h2 : j < i
    · simp [h1, h2]
    · simp [h1, h2]
set_option maxRecDepth 100000 in
set_option maxHeartbeats 2000000 in
theorem compare1 (n i h m j k : Int) (w : World) (r : Int) (hr : Hid (r = cmpC i h j k)) : Calls Try.prog 40 #[.agg #[.int .i64 n, .int .i64 i, .int .i64 h], .agg #[.int .i64 m, .int .i64 j, .int .i64 k]] w fun e w' => e = .returned (.int .i64 r) ∧ Below w.heap.size w w' := by
  obtain ⟨la, hla⟩ : ∃ la : Int, la = if h = 4 then 1 else 0 := ⟨_, rfl⟩
  obtain ⟨lb, hlb⟩ : ∃ lb : Int, lb = if k = 4 then 1 else 0 := ⟨_, rfl⟩
  have HA := Hid.mk0 hla
  have HB := Hid.mk0 hlb
  have la0 : 0 ≤ la ∧ la ≤ 1 := by rw [hla]; split <;> omega
  have lb0 : 0 ≤ lb ∧ lb ≤ 1 := by rw [hlb]; split <;> omega
  have ha4 : la = 0 ↔ ¬ h = 4 := by rw [hla]; split <;> simp_all
  have hb4 : lb = 0 ↔ ¬ k = 4 := by rw [hlb]; split <;> simp_all
  obtain ⟨s, hs⟩ : ∃ s, s = la + lb := ⟨_, rfl⟩
  have ws : IntKind.i64.wrap (la + lb) = s := by rw [IntWalk.i64_in _ (by omega), hs]
  obtain ⟨d, hd⟩ : ∃ d, d = la - lb := ⟨_, rfl⟩
  have wd : IntKind.i64.wrap (la - lb) = d := by rw [IntWalk.i64_in _ (by omega), hd]
  have hres : r = if 0 < s then d else if cmpI i j = 0 then cmpI h k else cmpI i j := by
    rw [hr.out]
    by_cases h4 : h = 4
    · have e1 : la = 1 := by rw [hla, if_pos h4]
      rw [if_pos (by omega)]
      by_cases k4 : k = 4
      · have e2 : lb = 1 := by rw [hlb, if_pos k4]
        simp [cmpC, h4, k4]; omega
      · have e2 : lb = 0 := by rw [hlb, if_neg k4]
        simp [cmpC, h4, k4]; omega
    · have e1 : la = 0 := by rw [hla, if_neg h4]
      by_cases k4 : k = 4
      · have e2 : lb = 1 := by rw [hlb, if_pos k4]
        rw [if_pos (by omega)]
        simp [cmpC, h4, k4]; omega
      · have e2 : lb = 0 := by rw [hlb, if_neg k4]
        rw [if_neg (by omega), cmp_or i h j k h4 k4]
  clear hla hlb la0 lb0 ha4 hb4 hs hd hr
  obtain ⟨wb, hwb, aw, lq1, lq2, x0, x1, x2, y0, y1, y2⟩ : ∃ wb : World, wb = ((w.alloc (.cells #[.int .i64 n, .int .i64 i, .int .i64 h] 53)).alloc (.cells #[.int .i64 m, .int .i64 j, .int .i64 k] 53)) ∧ Below w.heap.size w wb ∧ w.heap.size < wb.heap.size ∧ w.heap.size + 1 < wb.heap.size ∧
      wb.cell? ⟨w.heap.size, 0, none⟩ = some (.int .i64 n) ∧ wb.cell? ⟨w.heap.size, 1, none⟩ = some (.int .i64 i) ∧ wb.cell? ⟨w.heap.size, 2, none⟩ = some (.int .i64 h) ∧
      wb.cell? ⟨w.heap.size + 1, 0, none⟩ = some (.int .i64 m) ∧ wb.cell? ⟨w.heap.size + 1, 1, none⟩ = some (.int .i64 j) ∧ wb.cell? ⟨w.heap.size + 1, 2, none⟩ = some (.int .i64 k) := by
    have a1 := (Below.refl w.heap.size w).alloc (Nat.le_refl _) (.cells #[.int .i64 n, .int .i64 i, .int .i64 h] 53)
    have a2 := (Below.refl (w.alloc (.cells #[.int .i64 n, .int .i64 i, .int .i64 h] 53)).heap.size (w.alloc (.cells #[.int .i64 n, .int .i64 i, .int .i64 h] 53))).alloc (Nat.le_refl _) (.cells #[.int .i64 m, .int .i64 j, .int .i64 k] 53)
    have k1 : ∀ o v, (w.alloc (.cells #[.int .i64 n, .int .i64 i, .int .i64 h] 53)).cell? ⟨w.heap.size, o, none⟩ = some v → ((w.alloc (.cells #[.int .i64 n, .int .i64 i, .int .i64 h] 53)).alloc (.cells #[.int .i64 m, .int .i64 j, .int .i64 k] 53)).cell? ⟨w.heap.size, o, none⟩ = some v := fun o v h => (a2.cell (World.block_lt_of_cell? _ _ h)).trans h
    have e : (w.alloc (.cells #[.int .i64 n, .int .i64 i, .int .i64 h] 53)).heap.size = w.heap.size + 1 := by simp
    refine ⟨_, rfl, a1.trans (a2.mono a1.size), by (simp <;> omega), by (simp <;> omega), k1 _ _ ?_, k1 _ _ ?_, k1 _ _ ?_, ?_, ?_, ?_⟩ <;> (try rw [← e]) <;> (rw [World.cell?_alloc_new]; rfl)
  go_enter Try.func40, Try.ntmps40
  go_upto_region 1 with fail
  have HW := Hid.mk0 aw
  clear aw
  rw [← hwb]
  clear hwb
  refine wp_draws _ (Below.refl _ _) (by kernel_rfl) (by kernel_rfl) (fun hne hN => ?_)
  repeat (go_big_quiet_step (first | (go_at_call 51; with_reducible exact After.calls (left1 n i h _ la HA)) | (go_at_call 51; with_reducible exact After.calls (left1 m j k _ lb HB))))
  refine wpQuiet_nil (after_cells ?_)
  intro w2 hb2 hc2
  have z0 := (hc2 _ 0 lq1).trans x0
  have z1 := (hc2 _ 1 lq1).trans x1
  have z2 := (hc2 _ 2 lq1).trans x2
  have u0 := (hc2 _ 0 lq2).trans y0
  have u1 := (hc2 _ 1 lq2).trans y1
  have u2 := (hc2 _ 2 lq2).trans y2
  have lz1 : w.heap.size < w2.heap.size := Nat.lt_of_lt_of_le lq1 hb2.size
  have lz2 : w.heap.size + 1 < w2.heap.size := Nat.lt_of_lt_of_le lq2 hb2.size
  have HW2 := Hid.mk0 (HW.out.trans (hb2.mono HW.out.size))
  clear x0 x1 x2 y0 y1 y2 lq1 lq2 hc2 hb2 HW
  by_cases hs : 0 < s
  · have e : r = d := by rw [hres, if_pos hs]
    subst e
    clear hres
    go_upto_region 3 with fail
    refine wp_draws w2 (Below.refl _ _) (by kernel_rfl) (by kernel_rfl) (fun hne hN => ?_)
    repeat (go_big_quiet_step (first | (go_at_call 51; with_reducible exact After.calls (left1 n i h _ la HA)) | (go_at_call 51; with_reducible exact After.calls (left1 m j k _ lb HB))))
    refine wpQuiet_nil (after_cells ?_)
    intro w3 hb3 hc3
    go_wp2_with fail
    go_ret
    exact ⟨rfl, HW2.out.trans (hb3.mono HW2.out.size)⟩
  · obtain ⟨p, hp⟩ : ∃ p, p = cmpI i j := ⟨_, rfl⟩
    obtain ⟨v, hv⟩ : ∃ v, v = cmpI h k := ⟨_, rfl⟩
    have HR : Hid (r = if p = 0 then v else p) := Hid.mk0 (by rw [hres, if_neg hs, hp, hv])
    have HP := Hid.mk0 hp
    have HV := Hid.mk0 hv
    clear hres hp hv
    have d0 : Hid ((w2.alloc (.cells #[.int .i64 p, .int .i64 v] 3)).cell? ⟨w2.heap.size, 0, none⟩ = some (.int .i64 p)) := Hid.mk0 (by rw [World.cell?_alloc_new]; rfl)
    have d1 : Hid ((w2.alloc (.cells #[.int .i64 p, .int .i64 v] 3)).cell? ⟨w2.heap.size, 1, none⟩ = some (.int .i64 v)) := Hid.mk0 (by rw [World.cell?_alloc_new]; rfl)
    go_upto_region 4 with fail
    go_region_held3 (fun w' => (w'.cell? ⟨w.heap.size, 1, none⟩ = some (.int .i64 i) ∧ w'.cell? ⟨w.heap.size, 2, none⟩ = some (.int .i64 h)) ∧ w'.cell? ⟨w.heap.size + 1, 1, none⟩ = some (.int .i64 j) ∧ w'.cell? ⟨w.heap.size + 1, 2, none⟩ = some (.int .i64 k)) (first | exact ⟨⟨by assumption, by assumption⟩, by assumption, by assumption⟩ | go_keep) (first
      | (go_at_call 53; have _t := tok1; refine (cmp1 h k _ v HV).mono ?_; rintro e w3 ⟨rfl, rfl⟩)
      | (go_at_call 53; refine (cmp1 i j _ p HP).mono ?_; rintro e w3 ⟨rfl, rfl⟩; have tok1 : True := trivial)
      | (go_at_call 52; refine (or1 _ _ p v _ (by exact d0.out) (by exact d1.out) r HR).mono ?_; rintro e w3 ⟨rfl, rfl⟩)
      | fail)
    go_wp2_with fail
    go_ret
    exact ⟨rfl, (HW2.out.alloc HW2.out.size _).drew⟩
end Go.Proofs.Ytoikadgfbjjfiaa.Hth
