/- WatchApart: the walk of the law: what is done with one moment makes no difference to others; beyond the bounds there is none. Condition: the row lies in memory. -/
import Derived.Test.YtoikadgfbjjfiaaHpQ
import Derived.Test.YtoikadgfbjjfiaaThrees
namespace Go.Proofs.Ytoikadgfbjjfiaa.WWatchApart
open Go.RowKit Kit Wat Wat.Ints Tri3
set_option linter.unusedVariables false
theorem ins_first {m : Mom} : ∀ {L : List Mom}, (∀ y ∈ L, ltM y m = false) → ins m L = m :: L
  | [], _ => rfl
  | x :: l, h => by rw [ins, if_neg (by rw [h x (by simp)]; simp)]
theorem ins_filter {m : Mom} (p : Mom → Bool) (hp : p m = true) : ∀ {L : List Mom}, L.Pairwise (fun a b => ltM a b = true) → (ins m L).filter p = ins m (L.filter p)
  | [], _ => by simp [ins, hp]
  | x :: l, h => by
    rw [List.pairwise_cons] at h
    rw [ins]
    split
    · rename_i e
      cases hx : p x with
      | true => rw [List.filter_cons_of_pos hx, List.filter_cons_of_pos hx, ins, if_pos e, ins_filter p hp h.2]
      | false => rw [List.filter_cons_of_neg (by simp [hx]), List.filter_cons_of_neg (by simp [hx]), ins_filter p hp h.2]
    · rename_i e
      rw [List.filter_cons_of_pos hp]
      refine (ins_first fun y hy => ?_).symm
      have hy := (List.mem_filter.1 hy).1
      rcases List.mem_cons.1 hy with rfl | hy
      · simpa using e
      · cases e2 : ltM y m with
        | false => rfl
        | true => exact absurd (ltM_trans (h.1 y hy) e2) e
theorem ins_filter_no {m : Mom} (p : Mom → Bool) (hp : p m = false) : ∀ (L : List Mom), (ins m L).filter p = L.filter p
  | [] => by simp [ins, hp]
  | x :: l => by
    rw [ins]
    split
    · cases hx : p x with
      | true => rw [List.filter_cons_of_pos hx, List.filter_cons_of_pos hx, ins_filter_no p hp l]
      | false => rw [List.filter_cons_of_neg (by simp [hx]), List.filter_cons_of_neg (by simp [hx]), ins_filter_no p hp l]
    · rw [List.filter_cons_of_neg (by simp [hp])]
theorem without_set {L : List Mom} (h : St L) (id i a : Int) (hi : i ≠ id) : without id (setLq i a L) = setLq i a (without id L) := by
  unfold setLq
  split
  · unfold setL
    have h1 := ins_filter (m := ⟨i, a⟩) (fun m => decide (m.id ≠ id)) (by simpa using hi) (h.without i).ord
    unfold without at h1 ⊢
    rw [h1, List.filter_filter, List.filter_filter]
    congr 2
    funext m
    exact Bool.and_comm _ _
  · rfl
theorem without_same (L : List Mom) (id a : Int) : without id (setLq id a L) = without id L := by
  unfold setLq
  split
  · unfold setL
    have h1 := ins_filter_no (m := ⟨id, a⟩) (fun m => decide (m.id ≠ id)) (by simp) (without id L)
    unfold without at h1 ⊢
    rw [h1, List.filter_filter]
    simp
  · rfl
theorem big (A : Option Addr) (n c : Nat) (i a : Int) (w : World) (h : 60 < n) (hn : n ≤ 9223372036854775807) :
    Calls Try.prog 8 #[.slice A n c, .int .i64 i, .int .i64 a] w fun e w' => e = .returned (.bool true) ∧ Below w.heap.size w w' := by
  go_enter Try.func8, Try.ntmps8
  go_wp2_with (go_at_call 15; refine (awake _).mono ?_; rintro e w5 ⟨rfl, b5⟩)
  go_ret
  exact ⟨rfl, b5⟩
theorem ok_low (a : Int) : okM (-1) a = false := rfl
theorem ok_high (a : Int) : okM 1000 a = false := rfl
theorem ok_at (i : Int) : okM i (-1) = false := by unfold okM; simp
set_option maxRecDepth 100000 in
set_option maxHeartbeats 4000000 in
theorem small (A : Option Addr) (n c : Nat) (ls : List Cl) (i a : Int) (w : World) (hA : Hid (ClAt w A ls)) (hn : Hid (n = ls.length)) (hn6 : n ≤ 60) (hc : n ≤ c) :
    Calls Try.prog 8 #[.slice A n c, .int .i64 i, .int .i64 a] w fun e w' => e = .returned (.bool true) ∧ Below w.heap.size w w' := by
  go_enter Try.func8, Try.ntmps8
  go_upto_region 3 with fail
  go_wp2_with (first
    | (go_at_call 16; refine (new0 w).mono ?_; rintro e w1 ⟨ga, rfl, h1, hga, b1⟩)
    | (go_at_call 16; refine (new0 _).mono ?_; rintro e w2 ⟨gb, rfl, h2, hgb, b2⟩))
  have T2 := Hid.mk_ (newTwo h1.out hga.out h2.out hgb.out b2)
  have B2 := Hid.mk_ (b1.trans (b2.mono b1.size))
  have HG : Hid (w.heap.size ≤ ga ∧ w.heap.size ≤ gb) := Hid.mk_ ⟨hga.out, by have := hgb.out; have := b1.size; omega⟩
  clear h1 h2 hga hgb b1 b2
  go_loopw [25] (fun z wr => ∃ (k : Nat) (A' B' : Option Addr) (L M : List Mom), z = .int .i64 (k : Int) ∧ k ≤ n ∧ Hid (Two wr ga A' L gb B' M) ∧ Hid (M = without i L) ∧ Hid (Below w.heap.size w wr)) (fun z _ => n - (intOf z).toNat)
  case atStart => exact ⟨0, none, none, [], [], rfl, by omega, T2, Hid.mk_ rfl, B2⟩
  case round =>
    obtain ⟨k, A', B', L, M, rfl, hk, T, HM, BW⟩ := hrel
    clear T2 B2
    by_cases hlt : k < n
    · obtain ⟨x, hx⟩ : ∃ x, ls[k]? = some x := ⟨_, List.getElem?_eq_getElem (by have := hn.out; omega)⟩
      obtain ⟨b, off, rfl, bl, c0, c1, c2⟩ := hA.out k x hx
      replace c0 := keep1 BW.out c0
      replace c1 := keep1 BW.out c1
      replace c2 := keep1 BW.out c2
      clear hx bl
      have l1 : (k : Int) < (n : Int) := by omega
      have l0 : (0 : Int) ≤ (k : Int) := by omega
      go_upto_region 7 with fail
      have x1 : (wr.alloc (.cells #[.int .i64 x.n, .int .i64 x.i, .int .i64 x.h] 37)).cell? ⟨wr.heap.size, 1, none⟩ = some (.int .i64 x.i) := by rw [World.cell?_alloc_new]; rfl
      have x2 : (wr.alloc (.cells #[.int .i64 x.n, .int .i64 x.i, .int .i64 x.h] 37)).cell? ⟨wr.heap.size, 2, none⟩ = some (.int .i64 x.h) := by rw [World.cell?_alloc_new]; rfl
      have al : Below wr.heap.size wr (wr.alloc (.cells #[.int .i64 x.n, .int .i64 x.i, .int .i64 x.h] 37)) := (Below.refl _ _).alloc (Nat.le_refl _) _
      obtain ⟨q, hq⟩ : ∃ q, q = wr.heap.size := ⟨_, rfl⟩
      have NA : Hid (¬ Its ga A' q) := Hid.mk_ (fun h => by have := T.out.a.its q h; omega)
      have NB : Hid (¬ Its gb B' q) := Hid.mk_ (fun h => by have := T.out.b.its q h; omega)
      have T3 := Hid.mk_ (T.out.below al)
      have B3 := Hid.mk_ (BW.out.trans (al.mono BW.out.size))
      have ST := Hid.mk_ T.out.a.st
      rw [← hq] at x1 x2 ⊢
      clear c0 c1 c2 T BW al hq
      generalize wr.alloc (.cells #[.int .i64 x.n, .int .i64 x.i, .int .i64 x.h] 37) = wx at *
      clear wr
      go_upto_region 8 with (go_at_call 17; refine (setA wx ga gb A' B' L M x.i x.h T3 (okM x.i x.h) (Hid.mk_ rfl) (setLq x.i x.h L) (Hid.mk_ rfl)).mono ?_; rintro e w4 ⟨rfl, A4, T4, r4⟩)
      have s41 := r4.out.cell x1 NA.out
      have s42 := r4.out.cell x2 NA.out
      have z4 := Hid.mk_ (B3.out.trans (T3.out.wrA r4.out HG.out.1))
      clear x1 x2 T3 r4 B3
      by_cases hi : x.i = i
      · have hib : (x.i != i) = false := by simp [hi]
        have HI := Hid.mk_ hi
        clear hi
        go_wp2_with fail
        go_roundw
        case rel => exact ⟨k + 1, A4, B', _, _, by go_num, by omega, T4, Hid.mk_ (by rw [HI.out, without_same]; exact HM.out), z4⟩
        case measure => simp [intOf]; omega
      · have hib : (x.i != i) = true := by simp [hi]
        have HI := Hid.mk_ hi
        clear hi
        go_wp2_with (go_at_call 17; refine (setB w4 ga gb A4 B' _ M x.i x.h T4 (okM x.i x.h) (Hid.mk_ rfl) (setLq x.i x.h M) (Hid.mk_ rfl)).mono ?_; rintro e w5 ⟨rfl, B5', T5, r5⟩)
        go_roundw
        case rel => exact ⟨k + 1, A4, B5', _, _, by go_num, by omega, T5, Hid.mk_ (by rw [without_set ST.out _ _ _ HI.out, HM.out]), Hid.mk_ (z4.out.trans (T4.out.wrB r5.out HG.out.2))⟩
        case measure => simp [intOf]; omega
    · obtain rfl : k = n := by omega
      clear hk
      go_upto_region 13 with (first
        | (go_at_call 17; refine (setA wr ga gb A' B' L M i a T (okM i a) (Hid.mk_ rfl) (setLq i a L) (Hid.mk_ rfl)).mono ?_; rintro e w4 ⟨rfl, A4, T4, r4⟩)
        | (go_at_call 20; refine (cutA w4 ga gb A4 B' _ M i T4 _ (Hid.mk_ rfl) M (Hid.mk_ (by rw [without_same]; exact HM.out))).mono ?_; rintro e w5 ⟨rfl, A5, T5, r5⟩))
      have B5 := Hid.mk_ ((BW.out.trans (T.out.wrA r4.out HG.out.1)).trans (T4.out.wrA r5.out HG.out.1))
      clear T r4 T4 r5 BW HM
      go_wp2_with fail
      go_loopw [55] (fun z wr => ∃ (j : Nat), z = .int .i64 (j : Int) ∧ j ≤ k ∧ Hid (Two wr ga A5 M gb B' M) ∧ Hid (Below w.heap.size w wr)) (fun z _ => k - (intOf z).toNat)
      case atStart => exact ⟨0, rfl, by omega, T5, B5⟩
      case round =>
        clear T5 B5
        obtain ⟨j, rfl, hj, T, BW⟩ := hrel
        by_cases hlt2 : j < k
        · obtain ⟨x, hx⟩ : ∃ x, ls[j]? = some x := ⟨_, List.getElem?_eq_getElem (by have := hn.out; omega)⟩
          obtain ⟨b, off, rfl, bl, c0, c1, c2⟩ := hA.out j x hx
          replace c0 := keep1 BW.out c0
          replace c1 := keep1 BW.out c1
          replace c2 := keep1 BW.out c2
          clear hx bl
          have l1 : (j : Int) < (k : Int) := by omega
          have l0 : (0 : Int) ≤ (j : Int) := by omega
          go_upto_region 16 with fail
          have x1 : (wr.alloc (.cells #[.int .i64 x.n, .int .i64 x.i, .int .i64 x.h] 37)).cell? ⟨wr.heap.size, 1, none⟩ = some (.int .i64 x.i) := by rw [World.cell?_alloc_new]; rfl
          have al : Below wr.heap.size wr (wr.alloc (.cells #[.int .i64 x.n, .int .i64 x.i, .int .i64 x.h] 37)) := (Below.refl _ _).alloc (Nat.le_refl _) _
          have T3 := Hid.mk_ (T.out.below al)
          have B3 := Hid.mk_ (BW.out.trans (al.mono BW.out.size))
          clear c0 c1 c2 T BW al
          generalize wr.alloc (.cells #[.int .i64 x.n, .int .i64 x.i, .int .i64 x.h] 37) = wx at *
          obtain ⟨p, hp⟩ : ∃ p, p = (atL x.i M).getD 0 := ⟨_, rfl⟩
          obtain ⟨s, hs⟩ : ∃ s, s = (atL x.i M).isSome := ⟨_, rfl⟩
          have HP := Hid.mk_ hp
          have HS := Hid.mk_ hs
          clear hp hs
          go_upto_region 17 with (go_at_call 25; refine (at0 wx ga A5 M x.i (Hid.mk_ T3.out.a) p s HP HS).mono ?_; rintro e w4 ⟨rfl, b4⟩)
          have y1 := keep1 b4 x1
          have T4 := Hid.mk_ (T3.out.below b4)
          have B4 := Hid.mk_ (B3.out.trans (b4.mono B3.out.size))
          clear x1 T3 B3 b4
          go_upto_region 18 with (go_at_call 25; refine (at0 w4 gb B' M x.i (Hid.mk_ T4.out.b) p s HP HS).mono ?_; rintro e w5 ⟨rfl, b5⟩)
          have T5 := Hid.mk_ (T4.out.below b5)
          have B5 := Hid.mk_ (B4.out.trans (b5.mono B4.out.size))
          clear y1 T4 B4 b5
          go_wp2_with fail
          go_roundw
          case rel => exact ⟨j + 1, by go_num, by omega, T5, B5⟩
          case measure => simp [intOf]; omega
        · obtain rfl : j = k := by omega
          obtain ⟨r, hr⟩ : ∃ r : Int, r = (M.length : Int) := ⟨_, rfl⟩
          obtain ⟨D, hD⟩ : ∃ D, dueL 1099511627776 M = D := ⟨_, rfl⟩
          obtain ⟨N, hN⟩ : ∃ N, restL 1099511627776 M = N := ⟨_, rfl⟩
          have HD := Hid.mk_ hD
          have HN := Hid.mk_ hN
          have HR := Hid.mk_ hr
          have HL : Hid (D.length ≤ 1000) := Hid.mk_ (by have h1 := due_len 1099511627776 M; have h2 := T.out.a.st.len; rw [hD] at h1; omega)
          clear hr hD hN
          have s1 := set_no wr (some ⟨ga, 0, none⟩) (-1) a (Hid.mk_ (ok_low a))
          have s2 := set_no wr (some ⟨ga, 0, none⟩) 1000 a (Hid.mk_ (ok_high a))
          have s3 := set_no wr (some ⟨ga, 0, none⟩) i (-1) (Hid.mk_ (ok_at i))
          go_wp2_with (first
            | (go_at_call 15; refine (awake _).mono ?_; rintro e w13 ⟨rfl, b13⟩)
            | (go_at_call 22; refine (same P4 P5 d4 c4 d5 c5 D D _ (Hid.mk_ r4) n4 (by have := n4.out; have := HL.out; omega) (Hid.mk_ o5.out.row.2.1) n5 (by have := n5.out; have := HL.out; omega) true (Hid.mk_ (by simp))).mono ?_; rintro e w6 ⟨rfl, b6⟩)
            | (go_at_call 18; have _t := tok5; refine (dueB w4 ga gb A5 B' N M 1099511627776 T4 D HD N HN).mono ?_; rintro e w5 ⟨P5, d5, c5, rfl, o5, n5, T5, q5⟩; have r4 := (Wat.Own.keepW o4.out q5.out (fun k hk => T.out.b.its k hk)).row.2.1)
            | (go_at_call 18; refine (dueA _ ga gb A5 B' M M 1099511627776 T D HD N HN).mono ?_; rintro e w4 ⟨P4, d4, c4, rfl, o4, n4, T4, q4⟩; have tok5 : True := trivial)
            | (go_at_call 17; have _t := tok4; refine s3.mono ?_; rintro e w3 ⟨rfl, rfl⟩)
            | (go_at_call 17; have _t := tok3; refine s2.mono ?_; rintro e w3 ⟨rfl, rfl⟩; have tok4 : True := trivial)
            | (go_at_call 17; refine s1.mono ?_; rintro e w3 ⟨rfl, rfl⟩; have tok3 : True := trivial)
            | (go_at_call 19; have _t := tok1; refine (len _ gb B' M (Hid.mk_ T.out.b) r HR).mono ?_; rintro e w2 ⟨rfl, rfl⟩)
            | (go_at_call 19; refine (len _ ga A5 M (Hid.mk_ T.out.a) r HR).mono ?_; rintro e w2 ⟨rfl, rfl⟩; have tok1 : True := trivial))
          go_ret
          have z4 := BW.out.trans (T.out.wrA q4.out HG.out.1)
          have z5 := z4.trans (T4.out.wrB q5.out HG.out.2)
          have z6 := z5.trans (b6.mono z5.size)
          exact ⟨rfl, z6.trans (b13.mono z6.size)⟩
def sh0 : Sh := shC
theorem walk (w : World) (A : Option Addr) (n c : Nat) (h : RD w (.slice sh0) [.slice A n c]) (i : Int) (hi : (Lit.int .i64 i).wf = true) (a : Int) (ha : (Lit.int .i64 a).wf = true) :
    Calls Try.prog 8 #[.slice A n c, .int .i64 i, .int .i64 a] w fun e w' => e = .returned (.bool true) ∧ Below w.heap.size w w' := by
  obtain ⟨ls, h1, h2, h3, h4⟩ := rd_claims h
  have h5 : n ≤ 9223372036854775807 := by unfold maxLen at h4; omega
  by_cases h60 : 60 < n
  · exact big A n c i a w h60 h5
  · exact small A n c ls i a w (Hid.mk_ h2) (Hid.mk_ h1.symm) (by omega) h3
end Go.Proofs.Ytoikadgfbjjfiaa.WWatchApart
