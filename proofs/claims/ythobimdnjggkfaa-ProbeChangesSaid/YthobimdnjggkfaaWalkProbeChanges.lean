/- ProbeChanges: the walk of the law: one that comes waits, one that goes is not asked. Condition: the rows lie in memory. -/
import Derived.Test.YthobimdnjggkfaaPrQ
namespace Go.Proofs.Ythobimdnjggkfaa.WProbeChanges
open Go.RowKit Kit Prb
set_option linter.unusedVariables false
theorem big (me : Int) (A B : Option Addr) (n c n' c' : Nat) (d : Int) (w : World) (h : 50 < n ∨ 50 < n') (hm : n ≤ 9223372036854775807) (hm' : n' ≤ 9223372036854775807) :
    Calls Try.prog 7 #[.int .i64 me, .slice A n c, .slice B n' c', .int .u64 d] w fun e w' => e = .returned (.bool true) ∧ Below w.heap.size w w' := by
  by_cases h1 : 50 < n
  · go_enter Try.func7, Try.ntmps7
    go_wp2_with fail
    refine Calls.cells (awakeP _) ?_
    intro w3 h3 c3
    go_wp2_with fail
    go_ret
    exact ⟨rfl, h3⟩
  · have h2 : 50 < n' := by omega
    clear h
    go_enter Try.func7, Try.ntmps7
    go_wp2_with fail
    refine Calls.cells (awakeP _) ?_
    intro w3 h3 c3
    go_wp2_with fail
    go_ret
    exact ⟨rfl, h3⟩
set_option maxHeartbeats 4000000 in
theorem small (me : Int) (A B : Option Addr) (n c n' c' : Nat) (xs ys : List Int) (d : Int) (w : World) (hr : Hid (Row w A xs)) (hn : Hid (n = xs.length)) (hr' : Hid (Row w B ys)) (hn' : Hid (n' = ys.length)) (h : n ≤ 50) (h' : n' ≤ 50) (hd : Hid (0 ≤ d)) :
    Calls Try.prog 7 #[.int .i64 me, .slice A n c, .slice B n' c', .int .u64 d] w fun e w' => e = .returned (.bool true) ∧ Below w.heap.size w w' := by
  go_enter Try.func7, Try.ntmps7
  go_wp2_with fail
  refine (new me _).mono ?_
  rintro e w1 ⟨g, rfl, eg, O1, b1⟩
  go_wp2_with fail
  refine (next O1 A n c xs (Hid.mk_ (hr.out.below b1)) hn (by omega) d hd).mono ?_
  rintro e w2 ⟨he, A2, n2, c2, O2, hA2, W2⟩
  obtain ⟨x1, r1, h1⟩ : ∃ x1 r1, nxt me xs [] d = (x1, r1) := ⟨_, _, rfl⟩
  have hr1 : r1.length ≤ 8 := by have := nxt_len me xs [] d; rw [h1] at this; simpa using this
  rw [h1] at he O2
  obtain rfl := he
  have N1 := Hid.mk_ h1
  clear h1
  have z1 := b1.size
  have gz : w.heap.size ≤ g := Nat.le_of_eq eg.out.symm
  have b2 : Below w.heap.size w w2 := b1.trans (W2.below z1 (fun k hk => by
    rcases hk with rfl | ⟨off, e⟩
    · exact gz
    · cases e))
  have bA2 : ∀ b off, A2 = some ⟨b, off, none⟩ → w.heap.size ≤ b := fun b off e => by
    rcases hA2 b off e with ⟨off', e⟩ | h
    · cases e
    · omega
  clear hA2 W2 O1 b1 eg
  go_wp2_with fail
  refine (rest O2 (by omega)).mono ?_
  rintro e w3 ⟨A3, c3, rfl, own3, b3⟩
  obtain ⟨m, em⟩ : ∃ m, m = r1.length := ⟨_, rfl⟩
  rw [← em] at own3 hr1 ⊢
  have EM := Hid.mk_ em
  clear em
  have O3 := Hid.mk_ (O2.out.below b3)
  have z2 := b2.size
  have B3 := b2.trans (b3.mono z2)
  have g2 := O2.out.lt
  have a2 : ∀ b off, A2 = some ⟨b, off, none⟩ → b < w2.heap.size := fun b off e => O2.out.blk e
  have a3 := own3.block
  have S3 := Hid.mk_ own3.row.2.1
  have z3 := B3.size
  clear O2 b2 b3 own3
  go_wp2_with fail
  refine (next O3 B n' c' ys (Hid.mk_ (hr'.out.below B3)) hn' (by omega) (IntKind.u64.wrap (d + 1)) (Hid.mk_ (wrap_nonneg _))).mono ?_
  rintro e w4 ⟨he, A4, n4, c4, O4, hA4, W4⟩
  obtain ⟨d2, hd2⟩ : ∃ d2, IntKind.u64.wrap (d + 1) = d2 := ⟨_, rfl⟩
  rw [hd2] at he O4
  clear hd2
  obtain ⟨x2, r2, h2⟩ : ∃ x2 r2, nxt me ys r1 d2 = (x2, r2) := ⟨_, _, rfl⟩
  have hr2 : r2.length ≤ 8 := by have := nxt_len me ys r1 d2; rw [h2] at this; have := EM.out; simp at *; omega
  rw [h2] at he O4
  obtain rfl := he
  have N2 := Hid.mk_ h2
  clear h2
  have b4 : Below w.heap.size w w4 := B3.trans (W4.below z3 (fun k hk => by
    rcases hk with rfl | ⟨off, e⟩
    · exact gz
    · exact bA2 _ _ e))
  have S4 := Hid.mk_ (W4.row S3.out (fun b off e hk => by
    have := (a3 b off e).1
    rcases hk with rfl | ⟨off, e⟩
    · omega
    · have := a2 _ _ e; omega))
  clear hA4 W4 O3 B3 S3 a3 a2 bA2
  go_wp2_with fail
  refine (peers A n c xs me _ (Hid.mk_ (hr.out.below b4)) hn (by omega)).mono ?_
  rintro e w5 ⟨A5, c5, rfl, own5, b5⟩
  obtain ⟨m5, em⟩ : ∃ m, m = (br me xs 8).length := ⟨_, rfl⟩
  rw [← em]
  have E5 := Hid.mk_ em
  clear em own5
  have O5 := O4.out.below b5
  have S5 := S4.out.below b5
  have z4 := b4.size
  have B5 := b4.trans (b5.mono z4)
  clear O4 S4 b4 b5
  go_wp2_with fail
  refine (peers B n' c' ys me _ (Hid.mk_ (hr'.out.below B5)) hn' (by omega)).mono ?_
  rintro e w6 ⟨A6, c6, rfl, own6, b6⟩
  obtain ⟨m6, em⟩ : ∃ m, m = (br me ys 8).length := ⟨_, rfl⟩
  have hl6 := br_len me ys 8
  rw [← em] at own6 hl6 ⊢
  have E6 := Hid.mk_ em
  clear em
  have O6 := Hid.mk_ (O5.below b6)
  have S6 := Hid.mk_ (S5.below b6)
  have P6 := Hid.mk_ own6.row.2.1
  have z5 := B5.size
  have B6 := Hid.mk_ (B5.trans (b6.mono z5))
  clear O5 S5 B5 b6 own6
  by_cases h5 : m5 = 0
  · -- nobody there was
    have hb : br me xs 8 = [] := List.eq_nil_of_length_eq_zero (by rw [← E5.out, h5])
    have h1 := N1.out
    rw [nxt_nil _ _ _ _ hb] at h1
    obtain ⟨rfl, rfl⟩ := Prod.mk.inj h1
    obtain rfl : m = 0 := EM.out
    subst h5
    clear h1
    go_wp2_with fail
    refine Calls.cells (awakeP _) ?_
    intro w7 b7 _
    go_wp2_with fail
    go_ret
    exact ⟨rfl, B6.out.trans (b7.mono B6.out.size)⟩
  · by_cases h6 : m6 = 0
    · have hb : br me ys 8 = [] := List.eq_nil_of_length_eq_zero (by rw [← E6.out, h6])
      have h2 := N2.out
      rw [nxt_nil _ _ _ _ hb] at h2
      obtain ⟨rfl, rfl⟩ := Prod.mk.inj h2
      subst h6
      clear h2
      go_wp2_with fail
      refine (rest O6 (by omega)).mono ?_
      rintro e w7 ⟨A7, c7, rfl, own7, b7⟩
      rw [← EM.out] at own7 ⊢
      have S7 := Hid.mk_ (S6.out.below b7)
      have T7 := Hid.mk_ own7.row.2.1
      have B7 := B6.out.trans (b7.mono B6.out.size)
      clear own7
      go_wp2_with fail
      refine Calls.cells (same A7 A3 m c7 m c3 r1 r1 _ T7 EM (by omega) S7 EM (by omega) true (Hid.mk_ (by simp))) ?_
      intro w8 b8 _
      have B8 := B7.trans (b8.mono B7.size)
      go_wp2_with fail
      refine Calls.cells (awakeP _) ?_
      intro w9 b9 _
      go_wp2_with fail
      go_ret
      exact ⟨rfl, B8.trans (b9.mono B8.size)⟩
    · obtain ⟨y, zs, hp, hx⟩ := nxt_some me ys r1 d2 (fun e => h6 (by rw [E6.out, e]; rfl))
      have h2 := N2.out
      rw [hx] at h2
      obtain ⟨rfl, rfl⟩ := Prod.mk.inj h2
      have HP := Hid.mk_ hp
      have HC : Hid (∀ x, (br me ys 8).count x ≤ 1) := Hid.mk_ (fun x => br_count me ys x 8)
      clear h2 hx hp N2 N1
      generalize br me ys 8 = ls at *
      go_wp2_with fail
      have own0 : Own w6 w6.heap.size (.slice none 0 0) (kept ls (r1.take 0)) := Own.nil _ _
      go_loopw [15, 77] (fun v i wr => ∃ j : Nat, j ≤ m ∧ i = .int .i64 (j : Int) ∧ Hid (Own wr w6.heap.size v (kept ls (r1.take j))) ∧ Hid (Below w6.heap.size w6 wr)) (fun _ i _ => m - (intOf i).toNat)
      case atStart => exact ⟨0, by omega, rfl, own0, Hid.mk_ (Below.refl _ _)⟩
      case round =>
        clear own0
        obtain ⟨j, hj, rfl, hown, hb⟩ := hrel
        have hkl := kept_len ls (r1.take j)
        have hkl2 : (kept ls (r1.take j)).length ≤ 8 := by simp at hkl; omega
        clear hkl
        by_cases hlt : j < m
        · obtain ⟨x, hx⟩ : ∃ x, r1[j]? = some x := ⟨_, List.getElem?_eq_getElem (by have := EM.out; omega)⟩
          obtain ⟨bb, oo, rfl, cx⟩ := (S6.out.keep fun b _ _ hlt => hb.out.block b hlt) j x hx
          have HK := Hid.mk_ (kept_step ls r1 j x hx (HC.out x))
          clear hx
          generalize kept ls (r1.take j) = ks at *
          go_wp2_with fail
          have own1 : Hid (Own wr w6.heap.size u15 (ks ++ List.replicate ((ls.take 0).count x) x)) := by simpa using hown
          go_loopw [15, 83] (fun v i wr => ∃ t : Nat, t ≤ m6 ∧ i = .int .i64 (t : Int) ∧ Hid (Own wr w6.heap.size v (ks ++ List.replicate ((ls.take t).count x) x)) ∧ Hid (Below w6.heap.size w6 wr)) (fun _ i _ => m6 - (intOf i).toNat)
          case atStart => exact ⟨0, by omega, rfl, own1, hb⟩
          case round =>
            clear own1 hown hb cx
            obtain ⟨t, ht, rfl, hown, hb⟩ := hrel
            obtain ⟨A0, n0, c0, rfl, en0⟩ := hown.out.lettered
            have hct : (ls.take t).count x ≤ 1 := Nat.le_trans ((List.take_sublist _ _).count_le x) (HC.out x)
            by_cases hlt2 : t < m6
            · obtain ⟨z, hz⟩ : ∃ z, ls[t]? = some z := ⟨_, List.getElem?_eq_getElem (by have := E6.out; omega)⟩
              obtain ⟨b2, o2, rfl, cz⟩ := (P6.out.keep fun b _ _ hlt => hb.out.block b hlt) t z hz
              have CZ := Hid.mk_ (count_step ls t z x hz)
              clear hz
              by_cases he : x = z
              · subst he
                have hbs := hb.out.size
                have hz6 : (ks ++ List.replicate ((ls.take t).count x) x).length + 1 ≤ 1000 := by simp; omega
                go_wp2_with (at_builtin; refine wpList_app _ rfl _ _ rfl w6.heap.size _ (ks ++ List.replicate ((ls.take t).count x) x) rfl (hown.out.keep ((Below.refl _ _).alloc (Nat.le_refl _) _)) _ [x] 1 _ rfl rfl (Row.one _ _ _) hz6 (by simp; omega) ?_; intro v3 w3 hown3 hb3)
                obtain ⟨A3, n3, c3, rfl, en3⟩ := hown3.lettered
                exact ⟨⟨_, _, _, ⟨t + 1, by omega, by go_num, Hid.mk_ (by rw [CZ.out]; simp only [if_true]; rw [List.replicate_succ', ← List.append_assoc]; exact hown3), Hid.mk_ ((hb.out.alloc hbs _).trans hb3)⟩, rfl, rfl, rfl⟩, by simp [intOf]; omega⟩
              · go_wp2_with fail
                go_roundw
                case rel => exact ⟨t + 1, by omega, by go_num, Hid.mk_ (by rw [CZ.out, if_neg (fun e => he e.symm)]; exact hown.out), hb⟩
                case measure => simp [intOf]; omega
            · obtain rfl : t = m6 := by omega
              have h := hown.out
              rw [List.take_of_length_le (by have := E6.out; omega), ← HK.out] at h
              have HO := Hid.mk_ h
              clear h hown
              go_wp2_with fail
              go_roundw
              case rel => exact ⟨j + 1, by omega, by go_num, HO, hb⟩
              case measure => simp [intOf]; omega
        · obtain rfl : j = m := by omega
          rw [List.take_of_length_le (by have := EM.out; omega)] at hown hkl2
          have O7 := Hid.mk_ (O6.out.below hb.out)
          have B7 := Hid.mk_ (B6.out.trans (hb.out.mono B6.out.size))
          have hp := HP.out
          unfold pick at hp
          have hr2' : zs.length ≤ 900 := by omega
          by_cases hk : kept ls r1 = []
          · rw [if_pos hk] at hp
            rw [hk] at hown
            obtain ⟨A0, n0, c0, rfl, en0⟩ := hown.out.lettered
            obtain rfl : n0 = 0 := en0.out
            have hl : zs.length + 1 = m6 := by have := shuf_len ls.length d2 ls; rw [hp] at this; simp at this; rw [E6.out]; exact this
            obtain ⟨q, eq⟩ : ∃ q, q = zs.length := ⟨_, rfl⟩
            rw [← eq] at hl
            have EQ := Hid.mk_ eq
            subst hl
            clear hp hk hown hr2' eq
            go_wp2_with fail
            refine (rest O7 (by have := EQ.out; omega)).mono ?_
            rintro e w8 ⟨A8, c8, rfl, own8, b8⟩
            rw [← EQ.out]
            have B8 := B7.out.trans (b8.mono B7.out.size)
            go_wp2_with fail
            refine Calls.cells (awakeP _) ?_
            intro w9 b9 _
            go_wp2_with fail
            go_ret
            exact ⟨rfl, B8.trans (b9.mono B8.size)⟩
          · rw [if_neg hk] at hp
            rw [hp] at hown hkl2
            obtain ⟨A0, k0, c0, rfl, ek0⟩ := hown.out.lettered
            obtain ⟨g0, rfl, g0a, g0z, hcell⟩ := hown.out.some_ (by simp)
            obtain ⟨hc0, hm0⟩ := hown.out.bounds
            obtain ⟨q, eq⟩ : ∃ q, q = zs.length := ⟨_, rfl⟩
            have EQ := Hid.mk_ eq
            have hk0 : k0 = q + 1 := by have := ek0.out; simp at this; omega
            have cy := (hcell 0 y rfl).1
            have T7 := Hid.mk_ hown.out.row.2.1
            have hq8 : q ≤ 900 := by omega
            have HK0 := Hid.mk_ hk0
            have i0 : 0 < k0 := by omega
            have i1 : (0 : Int) < (k0 : Int) := by omega
            have i2 : (1 : Int) ≤ (k0 : Int) := by omega
            have i3 : (1 : Int) ≤ (c0 : Int) := by omega
            have i4 : (k0 : Int) ≤ (c0 : Int) := by omega
            clear hcell hp hk hr2' eq hown hkl2 hr2 hk0
            have EK0 : Hid (k0 - 1 = zs.length) := by have := HK0.out; have := EQ.out; exact Hid.mk_ (by omega)
            by_cases hc1 : c0 = 1
            · subst hc1
              obtain rfl : k0 = 1 := by omega
              obtain rfl := List.eq_nil_of_length_eq_zero EK0.out.symm
              clear EK0 HK0
              go_wp2_with fail
              go_region_held3 (fun w' => w'.cell? ⟨g0, 0, none⟩ = some (.int .i64 y)) (first | assumption | go_keep) (first
                | (go_at_call 19; refine (rest (by exact Hid.mk_ O7.out.drew) (by simp)).mono ?_; rintro e w8 ⟨A8, c8, rfl, own8, b8⟩; have s8 : w8.cell? ⟨g0, 0, none⟩ = some (.int .i64 y) := keepCell b8 (by first | assumption | exact cy))
                | (go_at_call 15; refine (same A8 _ _ c8 _ _ [] [] _ (Hid.mk_ (Row.nil _ _)) (Hid.mk_ rfl) (by simp) (Hid.mk_ (Row.nil _ _)) (Hid.mk_ rfl) (by simp) true (Hid.mk_ (by simp))).mono ?_; rintro e w9 ⟨rfl, b9⟩; have s9 : w9.cell? ⟨g0, 0, none⟩ = some (.int .i64 y) := keepCell b9 s8)
                | (go_at_call 13; refine (awakeP _).mono ?_; rintro e w10 ⟨rfl, b10⟩; have s10 : w10.cell? ⟨g0, 0, none⟩ = some (.int .i64 y) := keepCell b10 s9)
                | fail)
              go_wp2_with fail
              go_ret
              exact ⟨rfl, B7.out.trans (((Below.refl w.heap.size wr).drew.trans (b8.mono B7.out.size)).trans ((b9.mono (Nat.le_trans B7.out.size b8.size)).trans (b10.mono (Nat.le_trans (Nat.le_trans B7.out.size b8.size) b9.size))))⟩
            · have T8 := Hid.mk_ T7.out.tail
              go_wp2_with fail
              go_region_held3 (fun w' => w'.cell? ⟨g0, 0, none⟩ = some (.int .i64 y)) (first | assumption | go_keep) (first
                | (go_at_call 19; refine (rest (by exact Hid.mk_ O7.out.drew) (by have := EQ.out; omega)).mono ?_; rintro e w8 ⟨A8, c8, he8, own8, b8⟩; rw [← EQ.out] at he8 own8; subst he8; have s8 : w8.cell? ⟨g0, 0, none⟩ = some (.int .i64 y) := keepCell b8 (by first | assumption | exact cy))
                | (go_at_call 15; refine (same A8 _ _ c8 _ _ zs zs _ (by exact Hid.mk_ own8.row.2.1) EQ (by omega) (by exact Hid.mk_ (T8.out.drew.below b8)) EK0 (by omega) true (Hid.mk_ (by simp))).mono ?_; rintro e w9 ⟨rfl, b9⟩; have s9 : w9.cell? ⟨g0, 0, none⟩ = some (.int .i64 y) := keepCell b9 s8)
                | (go_at_call 13; refine (awakeP _).mono ?_; rintro e w10 ⟨rfl, b10⟩; have s10 : w10.cell? ⟨g0, 0, none⟩ = some (.int .i64 y) := keepCell b10 s9)
                | fail)
              go_wp2_with fail
              go_ret
              exact ⟨rfl, B7.out.trans (((Below.refl w.heap.size wr).drew.trans (b8.mono B7.out.size)).trans ((b9.mono (Nat.le_trans B7.out.size b8.size)).trans (b10.mono (Nat.le_trans (Nat.le_trans B7.out.size b8.size) b9.size))))⟩
def sh1 : Sh := .int .i64
def sh2 : Sh := .int .i64
theorem walk (w : World) (me : Int) (hme : (Lit.int .i64 me).wf = true) (A : Option Addr) (n c : Nat) (h : RD w (.slice sh1) [.slice A n c]) (B : Option Addr) (n' c' : Nat) (h' : RD w (.slice sh2) [.slice B n' c']) (d : Int) (hd : (Lit.int .u64 d).wf = true) :
    Calls Try.prog 7 #[.int .i64 me, .slice A n c, .slice B n' c', .int .u64 d] w fun e w' => e = .returned (.bool true) ∧ Below w.heap.size w w' := by
  obtain ⟨xs, h1, h2, h3, h4, _⟩ := rd_ints h
  obtain ⟨ys, h1', h2', h3', h4', _⟩ := rd_ints h'
  by_cases h50 : 50 < n ∨ 50 < n'
  · exact big me A B n c n' c' d w h50 (by omega) (by omega)
  · exact small me A B n c n' c' xs ys d w (Hid.mk_ h2) (Hid.mk_ h1.symm) (Hid.mk_ h2') (Hid.mk_ h1'.symm) (by omega) (by omega) (Hid.mk_ (by
      simp [Lit.wf] at hd
      exact hd.1))
end Go.Proofs.Ythobimdnjggkfaa.WProbeChanges
