/- WatchPlays: the walk of the law: any calls: each answer, each moment. Condition: the row lies in memory. -/
import Derived.Test.YtoikadgfbjjfiaaHpV
import Derived.Test.YtoikadgfbjjfiaaThrees
namespace Go.Proofs.Ytoikadgfbjjfiaa.WWatchPlays
open Go.RowKit Kit Wat Wat.Ints Tri3
set_option linter.unusedVariables false
theorem box0 {w1 : World} {ga : Nat} (h1 : Clk w1 ga none []) : Duo (w1.alloc (.cells #[.slice none 0 0] 35)) ga none [] w1.heap.size none [] := by
  have al := (Below.refl w1.heap.size w1).alloc (Nat.le_refl _) (.cells #[.slice none 0 0] 35)
  refine ⟨h1.below al, ⟨0, 0, by rw [World.cell?_alloc_new]; rfl, World.frozen?_alloc_new _ _ _ _, rfl, by omega, MRow.nil _ _, .inl ⟨rfl, rfl⟩⟩, fun k hk hn => ?_⟩
  have h3 := h1.its k hk
  rcases hn with rfl | ⟨off, e⟩
  · omega
  · cases e
set_option maxRecDepth 100000 in
set_option maxHeartbeats 8000000 in
theorem law (A : Option Addr) (n c : Nat) (ls : List Cl) (w : World) (hA : Hid (ClAt w A ls)) (hn : Hid (n = ls.length)) (hm : n ≤ 9223372036854775807) (hc : n ≤ c) :
    Calls Try.prog 4 #[.slice A n c] w fun e w' => e = .returned (.bool true) ∧ Below w.heap.size w w' := by
  go_enter Try.func4, Try.ntmps4
  go_upto_region 2 with (go_at_call 16; refine (new0 w).mono ?_; rintro e w1 ⟨ga, rfl, h1, hga, b1⟩)
  obtain ⟨gr, hgr⟩ : ∃ gr, gr = w1.heap.size := ⟨_, rfl⟩
  have T2 := Hid.mk_ (box0 h1.out)
  have B2 := Hid.mk_ (b1.alloc b1.size (.cells #[.slice none 0 0] 35))
  have HG : Hid (w.heap.size ≤ ga ∧ w.heap.size ≤ gr) := Hid.mk_ ⟨hga.out, by have := b1.size; omega⟩
  rw [← hgr] at T2 ⊢
  clear h1 hga b1 hgr
  generalize w1.alloc (.cells #[.slice none 0 0] 35) = w2 at *
  go_wp2_with fail
  go_loopw [19] (fun z wr => ∃ (k : Nat) (A' R' : Option Addr) (L : List Mom), z = .int .i64 (k : Int) ∧ k ≤ n ∧ Hid (Duo wr ga A' L gr R' L) ∧ Hid (Below w.heap.size w wr)) (fun z _ => n - (intOf z).toNat)
  case atStart => exact ⟨0, none, none, [], rfl, by omega, T2, B2⟩
  case round =>
    obtain ⟨k, A', R', L, rfl, hk, T, BW⟩ := hrel
    clear T2 B2
    by_cases hlt : k < n
    · obtain ⟨x, hx⟩ : ∃ x, ls[k]? = some x := ⟨_, List.getElem?_eq_getElem (by have := hn.out; omega)⟩
      obtain ⟨b, off, rfl, bl, c0, c1, c2⟩ := hA.out k x hx
      replace c0 := keep1 BW.out c0
      replace c1 := keep1 BW.out c1
      replace c2 := keep1 BW.out c2
      clear hx bl
      have l1 : (k : Int) < (n : Int) := by omega
      have l0 : (0 : Int) ≤ (k : Int) := by omega
      go_upto_region 7 with fail
      have x0 : (wr.alloc (.cells #[.int .i64 x.n, .int .i64 x.i, .int .i64 x.h] 37)).cell? ⟨wr.heap.size, 0, none⟩ = some (.int .i64 x.n) := by rw [World.cell?_alloc_new]; rfl
      have x1 : (wr.alloc (.cells #[.int .i64 x.n, .int .i64 x.i, .int .i64 x.h] 37)).cell? ⟨wr.heap.size, 1, none⟩ = some (.int .i64 x.i) := by rw [World.cell?_alloc_new]; rfl
      have x2 : (wr.alloc (.cells #[.int .i64 x.n, .int .i64 x.i, .int .i64 x.h] 37)).cell? ⟨wr.heap.size, 2, none⟩ = some (.int .i64 x.h) := by rw [World.cell?_alloc_new]; rfl
      have al : Below wr.heap.size wr (wr.alloc (.cells #[.int .i64 x.n, .int .i64 x.i, .int .i64 x.h] 37)) := (Below.refl _ _).alloc (Nat.le_refl _) _
      obtain ⟨q, hq⟩ : ∃ q, q = wr.heap.size := ⟨_, rfl⟩
      have NA : Hid (¬ Its ga A' q) := Hid.mk_ (fun h => by have := T.out.a.its q h; omega)
      have NB : Hid (¬ q = gr) := Hid.mk_ (fun h => by have := (T.out.r.its gr (.inl rfl)).2; omega)
      have T3 := Hid.mk_ (T.out.below al)
      have B3 := Hid.mk_ (BW.out.trans (al.mono BW.out.size))
      have ST := Hid.mk_ T.out.a.st
      rw [← hq] at x0 x1 x2 ⊢
      clear c0 c1 c2 T BW al hq
      generalize wr.alloc (.cells #[.int .i64 x.n, .int .i64 x.i, .int .i64 x.h] 37) = wx at *
      clear wr
      by_cases h100 : (100 : Int) ≤ (k : Int)
      · go_wp2_with (go_at_call 15; refine (awake _).mono ?_; rintro e w5 ⟨rfl, b5⟩)
        go_ret
        exact ⟨rfl, B3.out.trans (b5.mono B3.out.size)⟩
      · go_upto_region 9 with fail
        by_cases hd0 : x.n = 0
        · have e0 : (x.n == 0) = true := by simp [hd0]
          go_upto_region 12 with fail
          obtain ⟨M, hM⟩ : ∃ M, M = without x.i L := ⟨_, rfl⟩
          have HM := Hid.mk_ hM
          clear hM
          go_region_held3 (fun w' => w'.cell? ⟨q, 1, none⟩ = some (.int .i64 x.i)) (first | assumption | go_keep) (first
            | (go_at_call 20; refine (dcutA wx.drew ga gr A' R' L L x.i (by exact Hid.mk_ (T3.out.below (Below.refl _ _).drew)) (has x.i L) (Hid.mk_ rfl) M HM).mono ?_; rintro e w4 ⟨rfl, A4, T4, r4⟩; have s41 := r4.out.cell (by exact x1) NA.out)
            | (go_at_call 21; refine (dcutR w4 ga gr A4 R' M L x.i T4 ST (has x.i L) (Hid.mk_ rfl) M HM).mono ?_; rintro e w5 ⟨rfl, R5, T5, r5⟩; have s51 := r5.out.cell s41 NB.out)
            | fail)
          have z4 : Below w.heap.size wx w4 := (Below.refl _ _).drew.trans ((T3.out.below (Below.refl _ _).drew).wrA r4.out HG.out.1)
          have B5 := Hid.mk_ ((B3.out.trans z4).trans (T4.out.wrR r5.out HG.out.2))
          clear x0 x1 x2 T3 T4 r4 r5 B3 z4 s41 NA NB
          obtain ⟨a0, ha0⟩ : ∃ a0, a0 = (atL x.i M).getD 0 := ⟨_, rfl⟩
          obtain ⟨s0, hs0⟩ : ∃ s0, s0 = (atL x.i M).isSome := ⟨_, rfl⟩
          obtain ⟨r0, hr0⟩ : ∃ r0 : Int, r0 = (M.length : Int) := ⟨_, rfl⟩
          have HA0 := Hid.mk_ ha0
          have HS0 := Hid.mk_ hs0
          have HR0 := Hid.mk_ hr0
          clear ha0 hs0 hr0
          go_upto_region 16 with (go_at_call 25; refine (at0 w5 ga A4 M x.i (Hid.mk_ T5.out.a) a0 s0 HA0 HS0).mono ?_; rintro e w6 ⟨rfl, b6⟩)
          have y1 := keep1 b6 s51
          have T6 := Hid.mk_ (T5.out.below b6)
          have B6 := Hid.mk_ (B5.out.trans (b6.mono B5.out.size))
          clear s51 T5 B5 b6
          go_upto_region 17 with (go_at_call 26; refine (rat w6 gr R5 M x.i (Hid.mk_ T6.out.r) a0 s0 HA0 HS0).mono ?_; rintro e w7 ⟨rfl, b7⟩)
          have T7 := Hid.mk_ (T6.out.below b7)
          have B7 := Hid.mk_ (B6.out.trans (b7.mono B6.out.size))
          clear y1 T6 B6 b7
          obtain ⟨rn, rc, hrs⟩ := T7.out.r
          have hcellr := hrs.cell
          have ern : (rn : Int) = r0 := by rw [hrs.len, HR0.out]
          have RS := Hid.mk_ hrs
          clear hrs
          go_region_held3 (fun w' => w'.cell? ⟨gr, 0, none⟩ = some (.slice R5 rn rc)) (first | assumption | go_keep) (first
            | (go_at_call 19; refine (len _ ga A4 M (by exact Hid.mk_ (T7.out.below (Below.refl _ _).drew).a) r0 HR0).mono ?_; rintro e w8 ⟨rfl, rfl⟩)
            | fail)
          go_wp2_with fail
          go_roundw
          case rel => exact ⟨k + 1, A4, R5, M, by go_num, by omega, Hid.mk_ (T7.out.below (Below.refl _ _).drew), Hid.mk_ B7.out.drew⟩
          case measure => simp [intOf]; omega
        · have e0 : (x.n == 0) = false := by simp [hd0]
          by_cases hd1 : x.n = 1
          · have e1 : (x.n == 1) = true := by simp [hd1]
            go_upto_region 14 with fail
            obtain ⟨D, hD⟩ : ∃ D, dueL x.h L = D := ⟨_, rfl⟩
            obtain ⟨M, hM⟩ : ∃ M, restL x.h L = M := ⟨_, rfl⟩
            have HM := Hid.mk_ hM
            have HD := Hid.mk_ hD
            have HL : Hid (D.length ≤ 1000) := Hid.mk_ (by have h1 := due_len x.h L; have h2 := ST.out.len; rw [hD] at h1; omega)
            clear hM hD
            go_region_held3 (fun w' => w'.cell? ⟨q, 2, none⟩ = some (.int .i64 x.h)) (first | assumption | go_keep) (first
              | (go_at_call 18; refine (ddueA wx.drew ga gr A' R' L L x.h (by exact Hid.mk_ (T3.out.below (Below.refl _ _).drew)) D HD M HM).mono ?_; rintro e w4 ⟨P4, d4, c4, rfl, o4, n4, T4, r4⟩; have s41 := r4.out.cell (by exact x1) NA.out; have s42 := r4.out.cell (by exact x2) NA.out)
              | (go_at_call 23; refine (ddueR w4 ga gr A' R' M L x.h T4 ST D HD M HM).mono ?_; rintro e w5' ⟨P5, d5, c5, rfl, o5, n5, R5, T5', r5⟩; have s51' := r5.out.cell s41 NB.out; have s52' := r5.out.cell s42 NB.out)
              | (go_at_call 22; refine (same P4 P5 d4 c4 d5 c5 D D w5' (Hid.mk_ (Wat.Own.keepW o4.out r5.out (fun k hk => by subst hk; exact (T3.out.r.its _ (.inl rfl)).2)).row.2.1) n4 (by have := n4.out; have := HL.out; omega) (Hid.mk_ o5.out.row.2.1) n5 (by have := n5.out; have := HL.out; omega) true (Hid.mk_ (by simp))).mono ?_; rintro e w5 ⟨rfl, b5⟩; have s51 := keep1 b5 s51'; have s52 := keep1 b5 s52')
              | fail)
            have z4 : Below w.heap.size wx w4 := (Below.refl _ _).drew.trans ((T3.out.below (Below.refl _ _).drew).wrA r4.out HG.out.1)
            have z5 := (B3.out.trans z4).trans (T4.out.wrR r5.out HG.out.2)
            have B5 := Hid.mk_ (z5.trans (b5.mono z5.size))
            have T5 := Hid.mk_ (T5'.out.below b5)
            clear x0 x1 x2 T3 T4 r4 r5 B3 z4 z5 s41 s42 s51' s52' s52 b5 T5' NA NB o4 o5 n4 n5
            obtain ⟨a0, ha0⟩ : ∃ a0, a0 = (atL x.i M).getD 0 := ⟨_, rfl⟩
            obtain ⟨s0, hs0⟩ : ∃ s0, s0 = (atL x.i M).isSome := ⟨_, rfl⟩
            obtain ⟨r0, hr0⟩ : ∃ r0 : Int, r0 = (M.length : Int) := ⟨_, rfl⟩
            have HA0 := Hid.mk_ ha0
            have HS0 := Hid.mk_ hs0
            have HR0 := Hid.mk_ hr0
            clear ha0 hs0 hr0
            go_upto_region 16 with (go_at_call 25; refine (at0 w5 ga A' M x.i (Hid.mk_ T5.out.a) a0 s0 HA0 HS0).mono ?_; rintro e w6 ⟨rfl, b6⟩)
            have y1 := keep1 b6 s51
            have T6 := Hid.mk_ (T5.out.below b6)
            have B6 := Hid.mk_ (B5.out.trans (b6.mono B5.out.size))
            clear s51 T5 B5 b6
            go_upto_region 17 with (go_at_call 26; refine (rat w6 gr R5 M x.i (Hid.mk_ T6.out.r) a0 s0 HA0 HS0).mono ?_; rintro e w7 ⟨rfl, b7⟩)
            have T7 := Hid.mk_ (T6.out.below b7)
            have B7 := Hid.mk_ (B6.out.trans (b7.mono B6.out.size))
            clear y1 T6 B6 b7
            obtain ⟨rn, rc, hrs⟩ := T7.out.r
            have hcellr := hrs.cell
            have ern : (rn : Int) = r0 := by rw [hrs.len, HR0.out]
            have RS := Hid.mk_ hrs
            clear hrs
            go_region_held3 (fun w' => w'.cell? ⟨gr, 0, none⟩ = some (.slice R5 rn rc)) (first | assumption | go_keep) (first
              | (go_at_call 19; refine (len _ ga A' M (by exact Hid.mk_ (T7.out.below (Below.refl _ _).drew).a) r0 HR0).mono ?_; rintro e w8 ⟨rfl, rfl⟩)
              | fail)
            go_wp2_with fail
            go_roundw
            case rel => exact ⟨k + 1, A', R5, M, by go_num, by omega, Hid.mk_ (T7.out.below (Below.refl _ _).drew), Hid.mk_ B7.out.drew⟩
            case measure => simp [intOf]; omega
          · have e1 : (x.n == 1) = false := by simp [hd1]
            go_upto_region 10 with fail
            obtain ⟨M, hM⟩ : ∃ M, M = setLq x.i x.h L := ⟨_, rfl⟩
            have HM := Hid.mk_ hM
            clear hM
            go_region_held3 (fun w' => w'.cell? ⟨q, 1, none⟩ = some (.int .i64 x.i) ∧ w'.cell? ⟨q, 2, none⟩ = some (.int .i64 x.h)) (first | exact ⟨by assumption, by assumption⟩ | go_keep) (first
              | (go_at_call 17; refine (dsetA wx.drew ga gr A' R' L L x.i x.h (by exact Hid.mk_ (T3.out.below (Below.refl _ _).drew)) (okM x.i x.h) (Hid.mk_ rfl) M HM).mono ?_; rintro e w4 ⟨rfl, A4, T4, r4⟩; have s41 := r4.out.cell (by exact x1) NA.out; have s42 := r4.out.cell (by exact x2) NA.out)
              | (go_at_call 24; refine (dsetR w4 ga gr A4 R' M L x.i x.h T4 ST (okM x.i x.h) (Hid.mk_ rfl) M HM).mono ?_; rintro e w5 ⟨rfl, R5, T5, r5⟩; have s51 := r5.out.cell s41 NB.out; have s52 := r5.out.cell s42 NB.out)
              | fail)
            have z4 : Below w.heap.size wx w4 := (Below.refl _ _).drew.trans ((T3.out.below (Below.refl _ _).drew).wrA r4.out HG.out.1)
            have B5 := Hid.mk_ ((B3.out.trans z4).trans (T4.out.wrR r5.out HG.out.2))
            clear x0 x1 x2 T3 T4 r4 r5 B3 z4 s41 s42 s52 NA NB
            obtain ⟨a0, ha0⟩ : ∃ a0, a0 = (atL x.i M).getD 0 := ⟨_, rfl⟩
            obtain ⟨s0, hs0⟩ : ∃ s0, s0 = (atL x.i M).isSome := ⟨_, rfl⟩
            obtain ⟨r0, hr0⟩ : ∃ r0 : Int, r0 = (M.length : Int) := ⟨_, rfl⟩
            have HA0 := Hid.mk_ ha0
            have HS0 := Hid.mk_ hs0
            have HR0 := Hid.mk_ hr0
            clear ha0 hs0 hr0
            go_upto_region 16 with (go_at_call 25; refine (at0 w5 ga A4 M x.i (Hid.mk_ T5.out.a) a0 s0 HA0 HS0).mono ?_; rintro e w6 ⟨rfl, b6⟩)
            have y1 := keep1 b6 s51
            have T6 := Hid.mk_ (T5.out.below b6)
            have B6 := Hid.mk_ (B5.out.trans (b6.mono B5.out.size))
            clear s51 T5 B5 b6
            go_upto_region 17 with (go_at_call 26; refine (rat w6 gr R5 M x.i (Hid.mk_ T6.out.r) a0 s0 HA0 HS0).mono ?_; rintro e w7 ⟨rfl, b7⟩)
            have T7 := Hid.mk_ (T6.out.below b7)
            have B7 := Hid.mk_ (B6.out.trans (b7.mono B6.out.size))
            clear y1 T6 B6 b7
            obtain ⟨rn, rc, hrs⟩ := T7.out.r
            have hcellr := hrs.cell
            have ern : (rn : Int) = r0 := by rw [hrs.len, HR0.out]
            have RS := Hid.mk_ hrs
            clear hrs
            go_region_held3 (fun w' => w'.cell? ⟨gr, 0, none⟩ = some (.slice R5 rn rc)) (first | assumption | go_keep) (first
              | (go_at_call 19; refine (len _ ga A4 M (by exact Hid.mk_ (T7.out.below (Below.refl _ _).drew).a) r0 HR0).mono ?_; rintro e w8 ⟨rfl, rfl⟩)
              | fail)
            go_wp2_with fail
            go_roundw
            case rel => exact ⟨k + 1, A4, R5, M, by go_num, by omega, Hid.mk_ (T7.out.below (Below.refl _ _).drew), Hid.mk_ B7.out.drew⟩
            case measure => simp [intOf]; omega
    · obtain rfl : k = n := by omega
      go_wp2_with (go_at_call 15; refine (awake _).mono ?_; rintro e w5 ⟨rfl, b5⟩)
      go_ret
      exact ⟨rfl, BW.out.trans (b5.mono BW.out.size)⟩
def sh0 : Sh := shC
theorem walk (w : World) (A : Option Addr) (n c : Nat) (h : RD w (.slice sh0) [.slice A n c]) :
    Calls Try.prog 4 #[.slice A n c] w fun e w' => e = .returned (.bool true) ∧ Below w.heap.size w w' := by
  obtain ⟨ls, h1, h2, h3, h4⟩ := rd_claims h
  have h5 : n ≤ 9223372036854775807 := by unfold maxLen at h4; omega
  exact law A n c ls w (Hid.mk_ h2) (Hid.mk_ h1.symm) h5 h3
end Go.Proofs.Ytoikadgfbjjfiaa.WWatchPlays
