/- WatchOrder: the walk of the law: each is due once, in order, and not ahead of its moment; in steps it is as at once. Condition: the rows lie in memory. -/
import Derived.Test.YtoikadgfbjjfiaaHpQ
import Derived.Test.YtoikadgfbjjfiaaThrees
namespace Go.Proofs.Ytoikadgfbjjfiaa.WWatchOrder
open Go.RowKit Kit Wat Wat.Ints Tri3
set_option linter.unusedVariables false
theorem big (A : Option Addr) (n c : Nat) (B : Option Addr) (m d : Nat) (w : World) (h : 60 < n ∨ (n ≤ 60 ∧ 30 < m)) (hn : n ≤ 9223372036854775807) (hm : m ≤ 9223372036854775807) :
    Calls Try.prog 6 #[.slice A n c, .slice B m d] w fun e w' => e = .returned (.bool true) ∧ Below w.heap.size w w' := by
  rcases h with h | ⟨h1, h⟩
  · go_enter Try.func6, Try.ntmps6
    go_wp2_with (go_at_call 15; refine (awake _).mono ?_; rintro e w5 ⟨rfl, b5⟩)
    go_ret
    exact ⟨rfl, b5⟩
  · have h2 : ¬ 60 < n := by omega
    go_enter Try.func6, Try.ntmps6
    go_wp2_with (go_at_call 15; refine (awake _).mono ?_; rintro e w5 ⟨rfl, b5⟩)
    go_ret
    exact ⟨rfl, b5⟩
set_option maxRecDepth 100000 in
set_option maxHeartbeats 2000000 in
theorem small (A : Option Addr) (n c : Nat) (B : Option Addr) (m d : Nat) (ls : List Cl) (zs : List Int) (w : World) (hA : Hid (ClAt w A ls)) (hn : Hid (n = ls.length)) (hB : Hid (Row w B zs)) (hm : Hid (m = zs.length)) (hn6 : n ≤ 60) (hm3 : m ≤ 30) (hc : n ≤ c) (hd : m ≤ d) :
    Calls Try.prog 6 #[.slice A n c, .slice B m d] w fun e w' => e = .returned (.bool true) ∧ Below w.heap.size w w' := by
  go_enter Try.func6, Try.ntmps6
  go_upto_region 3 with fail
  go_wp2_with (first
    | (go_at_call 16; refine (new0 w).mono ?_; rintro e w1 ⟨ga, rfl, h1, hga, b1⟩)
    | (go_at_call 16; refine (new0 _).mono ?_; rintro e w2 ⟨gb, rfl, h2, hgb, b2⟩))
  have T2 := Hid.mk_ (newTwo h1.out hga.out h2.out hgb.out b2)
  have B2 := Hid.mk_ (b1.trans (b2.mono b1.size))
  have HG : Hid (w.heap.size ≤ ga ∧ w.heap.size ≤ gb) := Hid.mk_ ⟨hga.out, by have := hgb.out; have := b1.size; omega⟩
  clear h1 h2 hga hgb b1 b2
  go_loopw [33] (fun i wr => ∃ (k : Nat) (A' B' : Option Addr) (L : List Mom), i = .int .i64 (k : Int) ∧ k ≤ n ∧ Hid (Two wr ga A' L gb B' L) ∧ Hid (Below w.heap.size w wr)) (fun i _ => n - (intOf i).toNat)
  case atStart => exact ⟨0, none, none, [], rfl, by omega, T2, B2⟩
  case round =>
    obtain ⟨k, A', B', L, rfl, hk, T, BW⟩ := hrel
    clear T2 B2
    by_cases hlt : k < n
    · obtain ⟨x, hx⟩ : ∃ x, ls[k]? = some x := ⟨_, List.getElem?_eq_getElem (by have := hn.out; omega)⟩
      obtain ⟨b, off, rfl, bl, c0, c1, c2⟩ := hA.out k x hx
      replace c0 := keep1 BW.out c0
      replace c1 := keep1 BW.out c1
      replace c2 := keep1 BW.out c2
      clear hx bl
      have l1 : (k : Int) < (n : Int) := by omega
      have l0 : (0 : Int) ≤ (k : Int) := by omega
      go_upto_region 7 with fail
      have x1 : (wr.alloc (.cells #[.int .i64 x.n, .int .i64 x.i, .int .i64 x.h] 37)).cell? ⟨wr.heap.size, 1, none⟩ = some (.int .i64 x.i) := by rw [World.cell?_alloc_new]; rfl
      have x2 : (wr.alloc (.cells #[.int .i64 x.n, .int .i64 x.i, .int .i64 x.h] 37)).cell? ⟨wr.heap.size, 2, none⟩ = some (.int .i64 x.h) := by rw [World.cell?_alloc_new]; rfl
      have al : Below wr.heap.size wr (wr.alloc (.cells #[.int .i64 x.n, .int .i64 x.i, .int .i64 x.h] 37)) := (Below.refl _ _).alloc (Nat.le_refl _) _
      obtain ⟨q, hq⟩ : ∃ q, q = wr.heap.size := ⟨_, rfl⟩
      have NA : Hid (¬ Its ga A' q) := Hid.mk_ (fun h => by have := T.out.a.its q h; omega)
      have NB : Hid (¬ Its gb B' q) := Hid.mk_ (fun h => by have := T.out.b.its q h; omega)
      have T3 := Hid.mk_ (T.out.below al)
      have B3 := Hid.mk_ (BW.out.trans (al.mono BW.out.size))
      rw [← hq] at x1 x2 ⊢
      clear c0 c1 c2 T BW al hq
      generalize wr.alloc (.cells #[.int .i64 x.n, .int .i64 x.i, .int .i64 x.h] 37) = wx at *
      clear wr
      go_region_held3 (fun w' => w'.cell? ⟨q, 1, none⟩ = some (.int .i64 x.i) ∧ w'.cell? ⟨q, 2, none⟩ = some (.int .i64 x.h)) (first | exact ⟨by assumption, by assumption⟩ | go_keep) (first
        | (go_at_call 17; refine (setB _ ga gb A4 B' (setLq x.i x.h L) L x.i x.h T4 (okM x.i x.h) (Hid.mk_ rfl) (setLq x.i x.h L) (Hid.mk_ rfl)).mono ?_; rintro e w5 ⟨rfl, B5', T5, r5⟩; have s51 := r5.out.cell s41 NB.out; have s52 := r5.out.cell s42 NB.out)
        | (go_at_call 17; refine (setA wx.drew ga gb A' B' L L x.i x.h (by exact Hid.mk_ (T3.out.below (Below.refl _ _).drew)) (okM x.i x.h) (Hid.mk_ rfl) (setLq x.i x.h L) (Hid.mk_ rfl)).mono ?_; rintro e w4 ⟨rfl, A4, T4, r4⟩; have s41 := r4.out.cell (by exact x1) NA.out; have s42 := r4.out.cell (by exact x2) NA.out)
        | fail)
      have z4 : Below w.heap.size wx w4 := (Below.refl _ _).drew.trans ((T3.out.below (Below.refl _ _).drew).wrA r4.out HG.out.1)
      have z5 : Below w.heap.size w4 w5 := T4.out.wrB r5.out HG.out.2
      go_wp2_with fail
      go_roundw
      case rel => exact ⟨k + 1, A4, B5', _, by go_num, by omega, T5, Hid.mk_ ((B3.out.trans z4).trans z5)⟩
      case measure => simp [intOf]; omega
    · clear hk
      obtain ⟨r, hr⟩ : ∃ r : Int, r = (L.length : Int) := ⟨_, rfl⟩
      have HR := Hid.mk_ hr
      have ST := Hid.mk_ T.out.a.st
      have hr0 : 0 ≤ r := by omega
      have hr1 : r ≤ 1000 := by have := ST.out.len; omega
      clear hr
      go_upto_region 12 with (first
        | (go_at_call 19; refine (len _ ga A' L (Hid.mk_ T.out.a) r HR).mono ?_; rintro e w5 ⟨rfl, rfl⟩)
        | (go_at_call 18; refine (dueA _ ga gb A' B' L L 0 T _ (Hid.mk_ rfl) _ (Hid.mk_ rfl)).mono ?_; rintro e w6 ⟨P, np, cp, rfl, O6, N6, T6, R6⟩))
      have B6 := Hid.mk_ (BW.out.trans (T.out.wrA R6.out HG.out.1))
      obtain ⟨BG, hBG⟩ : ∃ BG, BG = w5.heap.size := ⟨_, rfl⟩
      have HI : Hid ((∀ k, Its ga A' k → k < BG) ∧ ∀ k, Its gb B' k → k < BG) := Hid.mk_ ⟨fun k h => by have := T.out.a.its k h; omega, fun k h => by have := T.out.b.its k h; omega⟩
      have HGB : Hid (w.heap.size ≤ BG) := Hid.mk_ (by rw [hBG]; exact BW.out.size)
      rw [← hBG] at O6
      have Z6 : Hid (BG ≤ w6.heap.size) := Hid.mk_ (by have := R6.out.size; omega)
      clear hBG T R6 BW
      go_wp2_with fail
      go_loopw [10, 11, 57] (fun v nv i wr => ∃ (j : Nat) (now : Int) (P : Option Addr) (np cp : Nat), v = .slice P np cp ∧ nv = .int .i64 now ∧ i = .int .i64 (j : Int) ∧ j ≤ m ∧ 0 ≤ now ∧ now < 1099511627776 ∧ Hid (Own wr BG (.slice P np cp) (dueL now L)) ∧ Hid (np = (dueL now L).length) ∧ Hid (Two wr ga A' (restL now L) gb B' L) ∧ Hid (BG ≤ wr.heap.size) ∧ Hid (Below w.heap.size w wr)) (fun _ _ i _ => m - (intOf i).toNat)
      case atStart => exact ⟨0, 0, P, np, cp, rfl, rfl, rfl, by omega, by omega, by omega, O6, N6, T6, Z6, B6⟩
      case round =>
        clear O6 N6 T6 Z6 B6
        obtain ⟨j, now, P', np, cp, rfl, rfl, rfl, hj, now0, now1, O, NP, T, Z, BW⟩ := hrel
        by_cases hlt : j < m
        · obtain ⟨x, hx⟩ : ∃ x, zs[j]? = some x := ⟨_, List.getElem?_eq_getElem (by have := hm.out; omega)⟩
          obtain ⟨b, off, rfl, c0⟩ := hB.out j x hx
          replace c0 := keep1 BW.out c0
          clear hx
          have l1 : (j : Int) < (m : Int) := by omega
          have l0 : (0 : Int) ≤ (j : Int) := by omega
          go_upto_region 16 with fail
          go_upto_region 17 with fail
          obtain ⟨y, y0, y1, ey⟩ := modm x 1099511627776 (by omega) (by omega)
          rw [ey]
          obtain ⟨nw, e1, e2, e3⟩ : ∃ nw : Int, (if now < y then y else now) = nw ∧ now ≤ nw ∧ nw < 1099511627776 := ⟨_, rfl, by split <;> omega, by split <;> omega⟩
          rw [e1]
          have HR2 := Hid.mk_ (due_rest ST.out.ord e2)
          have HA2 : Hid (∀ z ∈ dueL nw (restL now L), ∃ a, atL z L = some a ∧ a ≤ nw) := Hid.mk_ (fun z hz => due_at ST.out hz)
          have HL2 : Hid ((dueL now L).length + (dueL nw (restL now L)).length ≤ 1000) := Hid.mk_ (by
            have h1 := due_len nw L
            rw [← HR2.out.1, List.length_append] at h1
            have := ST.out.len
            omega)
          clear ey e1 y0 y1 c0
          obtain ⟨D, hD⟩ : ∃ D, dueL nw (restL now L) = D := ⟨_, rfl⟩
          rw [hD] at HR2 HA2 HL2
          have HD := Hid.mk_ hD
          clear hD
          obtain ⟨wo, rfl⟩ : ∃ wo : World, wo = wr := ⟨_, rfl⟩
          go_wp2_with (go_at_call 18; refine (dueA _ ga gb A' B' (restL now L) L nw T D HD (restL nw L) (Hid.mk_ HR2.out.2)).mono ?_; rintro e w7 ⟨Q, d7, c7, rfl, O7, N7, T7, R7⟩)
          have B7 := Hid.mk_ (BW.out.trans (T.out.wrA R7.out HG.out.1))
          have G7 := Hid.mk_ (Wat.Own.keepW O.out R7.out HI.out.1)
          have Z7 : Hid (BG ≤ w7.heap.size) := Hid.mk_ (by have := R7.out.size; have := Z.out; omega)
          have S7 : Hid (∀ b off, Q = some ⟨b, off, none⟩ → (Value.slice P' np cp).ownBlock ≠ some b) := Hid.mk_ (fun b off e e2 => by
            have h1 := (O7.out.block b off e).1
            have h2 := (O.out.blk b e2).2
            omega)
          have D7 := Hid.mk_ O7.out.row.2.1
          have F7 : Hid (d7 ≤ 1000) := Hid.mk_ (by have := N7.out; have := HL2.out; omega)
          have hd1 : (d7 : Int) ≤ 1000 := by have := F7.out; omega
          clear O7 R7 T O BW Z
          go_loopw [10, 71] (fun v i wr => ∃ (t : Nat) (P : Option Addr) (np cp : Nat), v = .slice P np cp ∧ i = .int .i64 (t : Int) ∧ t ≤ d7 ∧ Hid (Own wr BG (.slice P np cp) (dueL now L ++ D.take t)) ∧ Hid (Row wr Q D) ∧ Hid (∀ b off, Q = some ⟨b, off, none⟩ → (Value.slice P np cp).ownBlock ≠ some b) ∧ Hid (Two wr ga A' (restL nw L) gb B' L) ∧ Hid (BG ≤ wr.heap.size) ∧ Hid (Below w.heap.size w wr)) (fun _ i _ => d7 - (intOf i).toNat)
          case atStart => exact ⟨0, P', np, cp, rfl, rfl, by omega, Hid.mk_ (by simpa using G7.out), D7, S7, T7, Z7, B7⟩
          case round =>
            clear G7 D7 S7 T7 Z7 B7
            obtain ⟨t, P', np', cp', rfl, rfl, ht, G, DD, S, T, Z, BW⟩ := hrel
            by_cases hlt2 : t < d7
            · obtain ⟨z, hz⟩ : ∃ z, D[t]? = some z := ⟨_, List.getElem?_eq_getElem (by have := N7.out; omega)⟩
              obtain ⟨b2, off2, rfl, c2⟩ := DD.out t z hz
              obtain ⟨a, ha1, ha2⟩ := HA2.out z (List.mem_of_getElem? hz)
              have HAt := Hid.mk_ ha1
              have HZ := Hid.mk_ hz
              have hlt3 := World.block_lt_of_cell? _ _ c2
              have HBS := Hid.mk_ hlt3
              have ha3 : ¬ nw < a := by omega
              clear hz ha1 hlt3
              have k1 : (t : Int) < (d7 : Int) := by omega
              have k0 : (0 : Int) ≤ (t : Int) := by omega
              go_wp2_with (first
                | (go_at_call 25; refine (at0 _ gb B' L z (Hid.mk_ T.out.b) a true (Hid.mk_ (by rw [HAt.out]; rfl)) (Hid.mk_ (by rw [HAt.out]; rfl))).mono ?_; rintro e w8 ⟨rfl, b8⟩)
                | (at_builtin; refine wpList_one _ rfl _ _ rfl BG _ (dueL now L ++ D.take t) rfl ((G.out.keep b8).keep ((Below.refl _ _).alloc (Nat.le_refl _) _)) _ z _ rfl (Row.one' _ _ _ _ rfl) (by have := HL2.out; have := List.length_take_le t D; rw [List.length_append]; omega) (by have := Z.out; have := b8.size; simp; omega) ?_; intro v9 w9 g9))
              obtain ⟨P9, n9, c9, rfl, _⟩ := g9.out.own.form2
              have a9 := b8.alloc b8.size (.cells #[.int .i64 z] 3)
              have o9 := (G.out.keep b8).keep ((Below.refl _ _).alloc (Nat.le_refl _) (.cells #[.int .i64 z] 3))
              have y9 : BG ≤ (w8.alloc (.cells #[.int .i64 z] 3)).heap.size := Nat.le_trans Z.out a9.size
              have d9 := g9.out.below o9 y9
              have t9 := (T.out.below a9).keepB d9 HI.out.1 HI.out.2
              have q9 := g9.out.row (DD.out.below a9) S.out
              have s9 := g9.out.sep S.out (fun b off e => by injection e with e; injection e with e; have := HBS.out; have := a9.size; simp only at *; omega)
              have ow := g9.out.own
              have et : D.take (t + 1) = D.take t ++ [z] := by rw [List.take_add_one, HZ.out]; rfl
              rw [List.append_assoc, ← et] at ow
              have z9 : Below w.heap.size w w9 := (BW.out.trans (a9.mono BW.out.size)).trans (d9.mono HGB.out)
              exact ⟨⟨t + 1, P9, n9, c9, rfl, by go_num, by omega, Hid.mk_ ow, Hid.mk_ q9, Hid.mk_ s9, Hid.mk_ t9, Hid.mk_ (Nat.le_trans y9 d9.size), Hid.mk_ z9⟩, by simp [intOf]; omega⟩
            · obtain rfl : t = d7 := by omega
              have ow := G.out
              rw [List.take_of_length_le (by have := N7.out; omega), HR2.out.1] at ow
              have en := ow.row.1
              have OW := Hid.mk_ ow
              have EN := Hid.mk_ en
              clear ow en
              go_wp2_with fail
              go_roundw
              case rel => exact ⟨j + 1, nw, P', np', cp', rfl, rfl, by go_num, by omega, by omega, by omega, OW, EN, T, Z, BW⟩
              case measure => simp [intOf]; omega
        · obtain rfl : j = m := by omega
          obtain ⟨D, hD⟩ : ∃ D, dueL now L = D := ⟨_, rfl⟩
          obtain ⟨N, hN⟩ : ∃ N, restL now L = N := ⟨_, rfl⟩
          have hl := due_len now L
          have hall := due_all (now := 1099511627776) (L := N) (fun m hm => by rw [← hN] at hm; exact (ST.out.at0 m (rest_sub hm)).2)
          rw [hD] at O NP hl
          rw [hN] at T hl
          obtain ⟨r2, hr2⟩ : ∃ r2 : Int, r2 = (N.length : Int) := ⟨_, rfl⟩
          obtain ⟨d, hd⟩ : ∃ d : Nat, d = D.length := ⟨_, rfl⟩
          obtain rfl : np = d := by rw [NP.out, hd]
          have hnp : np ≤ 1000 := by have := HR.out; omega
          have e1 : r - (np : Int) = r2 := by have := HR.out; omega
          have hr3 : (N.length : Int) = r2 := hr2.symm
          have HD := Hid.mk_ hD
          have HN := Hid.mk_ hN
          have HE := Hid.mk_ hall
          have HR2 := Hid.mk_ hr2
          have HQ : Hid ((N.map Mom.id).length = N.length) := Hid.mk_ (by simp)
          clear hD hN hl hall hd hr2 hr3
          go_upto_region 27 with (go_at_call 18; refine (dueB _ ga gb A' B' N L now T D HD N HN).mono ?_; rintro e w7 ⟨Q, d7, c7, rfl, O7, N7, T7, R7⟩)
          obtain rfl : d7 = np := by rw [NP.out, N7.out]
          have G7 := Hid.mk_ (Wat.Own.keepW O.out R7.out HI.out.2)
          have B7 := Hid.mk_ (BW.out.trans (T.out.wrB R7.out HG.out.2))
          clear O T BW R7
          go_upto_region 29 with (first
            | (go_at_call 22; refine (same P' Q d7 _ d7 _ D D _ (Hid.mk_ G7.out.row.2.1) NP (by omega) (Hid.mk_ O7.out.row.2.1) N7 (by omega) true (Hid.mk_ (by simp))).mono ?_; rintro e w8 ⟨rfl, b8⟩; have T8 := Hid.mk_ (T7.out.below b8))
            | (go_at_call 19; have _t := tok2; refine (len _ ga A' N (Hid.mk_ T8.out.a) r2 HR2).mono ?_; rintro e w9 ⟨rfl, rfl⟩)
            | (go_at_call 19; have _t := tok1; refine (len _ gb B' N (Hid.mk_ T8.out.b) r2 HR2).mono ?_; rintro e w9 ⟨rfl, rfl⟩; have tok2 : True := trivial)
            | (go_at_call 19; refine (len _ ga A' N (Hid.mk_ T8.out.a) r2 HR2).mono ?_; rintro e w9 ⟨rfl, rfl⟩; have tok1 : True := trivial))
          have B8 := Hid.mk_ (B7.out.trans (b8.mono B7.out.size))
          clear tok1 tok2 G7 O7 T7 b8 B7
          go_upto_region 30 with (go_at_call 18; refine (dueA _ ga gb A' B' N N 1099511627776 T8 _ (Hid.mk_ HE.out.1) [] (Hid.mk_ HE.out.2)).mono ?_; rintro e w10 ⟨Q10, d10, c10, rfl, O10, N10, T10, R10⟩)
          have B10 := Hid.mk_ (B8.out.trans (T8.out.wrA R10.out HG.out.1))
          have e2 : (d10 : Int) = r2 := by have := N10.out; have := HQ.out; have := HR2.out; omega
          clear O10 T8 R10 B8
          go_wp2_with (first
            | (go_at_call 15; refine (awake _).mono ?_; rintro e w13 ⟨rfl, b13⟩)
            | (go_at_call 19; refine (len _ ga A' [] (Hid.mk_ T10.out.a) 0 (Hid.mk_ rfl)).mono ?_; rintro e w11 ⟨rfl, rfl⟩)
            | (go_at_call 18; refine (dueA _ ga gb A' B' [] N 1099511627776 T10 [] (Hid.mk_ rfl) [] (Hid.mk_ rfl)).mono ?_; rintro e w12 ⟨Q12, d12, c12, rfl, O12, N12, T12, R12⟩; have e3 : d12 = 0 := N12.out; subst e3))
          go_ret
          have z12 := B10.out.trans (T10.out.wrA R12.out HG.out.1)
          exact ⟨rfl, z12.trans (b13.mono z12.size)⟩
def sh0 : Sh := shC
def sh1 : Sh := .int .i64
theorem walk (w : World) (A : Option Addr) (n c : Nat) (h : RD w (.slice sh0) [.slice A n c]) (B : Option Addr) (m d : Nat) (h' : RD w (.slice sh1) [.slice B m d]) :
    Calls Try.prog 6 #[.slice A n c, .slice B m d] w fun e w' => e = .returned (.bool true) ∧ Below w.heap.size w w' := by
  obtain ⟨ls, h1, h2, h3, h4⟩ := rd_claims h
  obtain ⟨zs, g1, g2, g3, g4, _⟩ := rd_ints h'
  have h5 : n ≤ 9223372036854775807 := by unfold maxLen at h4; omega
  by_cases h60 : 60 < n
  · exact big A n c B m d w (.inl h60) h5 (by omega)
  · by_cases h30 : 30 < m
    · exact big A n c B m d w (.inr ⟨by omega, h30⟩) h5 (by omega)
    · exact small A n c B m d ls zs w (Hid.mk_ h2) (Hid.mk_ h1.symm) (Hid.mk_ g2) (Hid.mk_ g1.symm) (by omega) (by omega) h3 g3
end Go.Proofs.Ytoikadgfbjjfiaa.WWatchOrder
