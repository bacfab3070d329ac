/- RumorLouder: the walk of the law: what is there of a node is the loudest that was put; a louder one begins anew. Condition: the row lies in memory. -/
import Derived.Test.YtoikadgfbjjfiaaRpN
namespace Go.Proofs.Ytoikadgfbjjfiaa.WRumorLouder
open Go.RowKit Kit Rum Tri3
set_option linter.unusedVariables false
/-- What is there, and the loudest that was put. -/
structure Lou (n : Int) (d : Cl) (L : List Tld) (i : Nat) : Prop where
  nd : d.n = n
  st : (d.h = 0 ∧ d.i = 0 ∧ L = []) ∨ (1 ≤ d.h ∧ d.h ≤ 4 ∧ 0 ≤ d.i ∧ ∃ k : Nat, k ≤ i ∧ k ≤ 15 ∧ L = [one d k])
theorem may_ok {c : Cl} (h : Hth.mayC c.n c.i c.h = true) : (c.h = 0 ∧ c.i = 0) ∨ (0 ≤ c.i ∧ 1 ≤ c.h ∧ c.h ≤ 4) := by
  unfold Hth.mayC at h
  have h := of_decide_eq_true h
  omega
theorem up_eq {n : Int} {c d : Cl} {L : List Tld} {i : Nat} (hl : Lou n d L i) (hc : c.n = n) (hm : Hth.mayC c.n c.i c.h = true) : putB c L = decide (0 < Hth.cmpC c.i c.h d.i d.h) := by
  have hk := may_ok hm
  have hg : good c = !(c.h == 0) := by unfold good; rw [hm]; rfl
  rcases hl.st with ⟨h1, h2, rfl⟩ | ⟨h1, h2, h3, k, _, _, rfl⟩
  · rw [putB_nil, hg, h1, h2, Bool.eq_iff_iff]
    simp only [Bool.not_eq_true', beq_eq_false_iff_ne, decide_eq_true_eq]
    unfold Hth.cmpC
    repeat' split
    all_goals omega
  · have e : qof c.n [one d k] = some (one d k) := by rw [hc, ← hl.nd]; exact qof_one d k
    have e1 : putB c [one d k] = (!(c.h == 0) && decide (0 < Hth.cmpC c.i c.h d.i d.h)) := by unfold putB; rw [hg, e]; rfl
    rw [e1]
    by_cases h0 : c.h = 0
    · have hi : c.i = 0 := by omega
      have : ¬ 0 < Hth.cmpC c.i c.h d.i d.h := by
        rw [h0, hi]
        unfold Hth.cmpC
        repeat' split
        all_goals omega
      rw [decide_eq_false this, Bool.and_false]
    · have : (c.h == 0) = false := by simpa using h0
      rw [this, Bool.not_false, Bool.true_and]
theorem put_yes {n : Int} {c d : Cl} {L : List Tld} {i : Nat} (hl : Lou n d L i) (hc : c.n = n) (hm : Hth.mayC c.n c.i c.h = true) (h : putB c L = true) : putQ c L = [one c (0 : Nat)] ∧ Lou n c [one c (0 : Nat)] i := by
  have hg : good c = true := by unfold putB at h; rw [Bool.and_eq_true] at h; exact h.1
  have hk := (good_iff c).1 hg
  refine ⟨?_, ⟨hc, .inr ⟨by omega, by omega, by omega, 0, by omega, by omega, rfl⟩⟩⟩
  have e : without c.n L = [] := by
    rcases hl.st with ⟨_, _, rfl⟩ | ⟨_, _, _, k, _, _, rfl⟩
    · rfl
    · unfold without; simp [one, hl.nd, hc]
  unfold putQ
  rw [h, if_pos rfl, e]
  rfl
theorem Lou.mono {n : Int} {d : Cl} {L : List Tld} {i : Nat} (h : Lou n d L i) : Lou n d L (i + 1) := ⟨h.nd, by
  rcases h.st with h1 | ⟨h1, h2, h3, k, h4, h5, h6⟩
  · exact .inl h1
  · exact .inr ⟨h1, h2, h3, k, by omega, h5, h6⟩⟩
theorem Lou.took {n : Int} {d : Cl} {L : List Tld} {i : Nat} (h : Lou n d L i) (hi : i < 15) : Lou n d (tookQ 20 (many 1 L.length) L) (i + 1) := ⟨h.nd, by
  rcases h.st with ⟨h1, h2, rfl⟩ | ⟨h1, h2, h3, k, h4, h5, rfl⟩
  · exact .inl ⟨h1, h2, rfl⟩
  · refine .inr ⟨h1, h2, h3, k + 1, by omega, by omega, ?_⟩
    have e : tookQ 20 1 [one d k] = [one d ((k : Int) + 1)] := took_one_yes (by omega)
    exact e⟩
theorem Lou.has {n : Int} {d : Cl} {L : List Tld} {i : Nat} (h : Lou n d L i) : (d.h = 0 ∧ qof n L = none) ∨ (d.h ≠ 0 ∧ ∃ k : Nat, L = [one d k] ∧ qof n L = some (one d k)) := by
  rcases h.st with ⟨h1, h2, rfl⟩ | ⟨h1, h2, h3, k, h4, h5, rfl⟩
  · exact .inl ⟨h1, rfl⟩
  · exact .inr ⟨by omega, k, rfl, by rw [← h.nd]; exact qof_one d k⟩
set_option maxRecDepth 100000 in
set_option maxHeartbeats 8000000 in
theorem law (A : Option Addr) (nl cl : Nat) (ls : List Cl) (a : Int) (w : World) (hA : Hid (ClAt w A ls)) (hn : Hid (nl = ls.length)) (hm : nl ≤ 9223372036854775807) (hcl : nl ≤ cl) :
    Calls Try.prog 12 #[.slice A nl cl, .int .i64 a] w fun e w' => e = .returned (.bool true) ∧ Below w.heap.size w w' := by
  go_enter Try.func12, Try.ntmps12
  go_upto_region 2 with fail
  obtain ⟨n, n0, n1, en⟩ := modm a 8 (by omega) (by omega)
  rw [en]
  clear en
  go_upto_region 3 with (go_at_call 27; refine (new0 _ 20 20 (Hid.mk_ rfl)).mono ?_; rintro e w1 ⟨g, rfl, h1, hg, b1⟩)
  have BL := Box3.made w1 n 0 0
  have al := (Below.refl w1.heap.size w1).alloc (Nat.le_refl _) (.cells #[.int .i64 n, .int .i64 0, .int .i64 0] 53)
  have H1 := Hid.mk_ (h1.out.below al)
  have B1 := Hid.mk_ (b1.alloc b1.size (.cells #[.int .i64 n, .int .i64 0, .int .i64 0] 53))
  obtain ⟨p, hp⟩ : ∃ p, p = w1.heap.size := ⟨_, rfl⟩
  have NP : Hid (¬ Its g none p ∧ w.heap.size ≤ p ∧ w.heap.size ≤ g) := Hid.mk_ ⟨fun h => by have := h1.out.its p h; omega, by have := b1.size; omega, hg.out⟩
  go_upto_region 4 with fail
  have BL2 := Hid.mk_ BL
  rw [← hp] at BL2 ⊢
  clear BL al h1 b1 hg hp
  generalize w1.alloc (.cells #[.int .i64 n, .int .i64 0, .int .i64 0] 53) = w2 at *
  have LS : Hid (Lou n ⟨n, 0, 0⟩ [] 0) := Hid.mk_ ⟨rfl, .inl ⟨rfl, rfl, rfl⟩⟩
  go_wp2_with fail
  go_loopw [22] (fun z wr => ∃ (k : Nat) (A' : Option Addr) (L : List Tld) (d : Cl), z = .int .i64 (k : Int) ∧ k ≤ nl ∧ Hid (Que wr g 20 A' L) ∧ Hid (¬ Its g A' p) ∧ Hid (Box3 wr p d.n d.i d.h) ∧ Hid (Lou n d L k) ∧ Hid (Below w.heap.size w wr)) (fun z _ => nl - (intOf z).toNat)
  case atStart => exact ⟨0, none, [], ⟨n, 0, 0⟩, rfl, by omega, H1, Hid.mk_ NP.out.1, BL2, LS, B1⟩
  case round =>
    clear H1 BL2 LS B1
    obtain ⟨k, A', L, d, rfl, hk, K, NI, BX, LO, BW⟩ := hrel
    by_cases hlt : k < nl
    · obtain ⟨x, hx⟩ : ∃ x, ls[k]? = some x := ⟨_, List.getElem?_eq_getElem (by have := hn.out; omega)⟩
      obtain ⟨b, off, rfl, bl, c0, c1, c2⟩ := hA.out k x hx
      replace c0 := keep1 BW.out c0
      replace c1 := keep1 BW.out c1
      replace c2 := keep1 BW.out c2
      clear hx bl
      have l1 : (k : Int) < (nl : Int) := by omega
      have l0 : (0 : Int) ≤ (k : Int) := by omega
      by_cases h60 : (60 : Int) ≤ (k : Int)
      · go_wp2_with (go_at_call 37; refine (awake _).mono ?_; rintro e w5 ⟨rfl, b5⟩)
        go_ret
        have z := BW.out.alloc BW.out.size (.cells #[.int .i64 x.n, .int .i64 x.i, .int .i64 x.h] 53)
        exact ⟨rfl, z.trans (b5.mono z.size)⟩
      · go_upto_region 8 with fail
        have al := (Below.refl wr.heap.size wr).alloc (Nat.le_refl _) (.cells #[.int .i64 x.n, .int .i64 x.i, .int .i64 x.h] 53)
        have CX := Hid.mk_ (Box3.made wr x.n x.i x.h)
        have K1 := Hid.mk_ (K.out.below al)
        have BX1 := Hid.mk_ (BX.out.keep al)
        have BW1 := Hid.mk_ (BW.out.trans (al.mono BW.out.size))
        obtain ⟨q, hq⟩ : ∃ q, q = wr.heap.size := ⟨_, rfl⟩
        have NQ : Hid (¬ Its g A' q ∧ q ≠ p ∧ w.heap.size ≤ q) := Hid.mk_ ⟨fun h => by have := K.out.its q h; omega, by have := BX.out.lt; omega, by have := BW.out.size; omega⟩
        rw [← hq] at CX ⊢
        clear c0 c1 c2 al K BX BW hq
        generalize wr.alloc (.cells #[.int .i64 x.n, .int .i64 x.i, .int .i64 x.h] 53) = w3 at *
        obtain ⟨x0, x1, x2, f0, f1, f2⟩ := CX.out
        have CX2 := CX.out.set0 n
        have ws := Wr.set w3 q 0 (.int .i64 n)
        have K2 := Hid.mk_ (K1.out.wr ws (fun i hi e => by subst e; exact NQ.out.1 hi))
        have BX2 := Hid.mk_ (BX1.out.wr ws (fun e => NQ.out.2.1 e.symm))
        have BW2 := Hid.mk_ (below_set (o := 0) (v := .int .i64 n) BW1.out NQ.out.2.2)
        go_upto_region 9 with fail
        have CX3 := Hid.mk_ CX2
        clear CX CX2 ws K1 BX1 BW1 x0 x1 x2 f0 f1 f2
        generalize w3.setCell ⟨q, 0, none⟩ (.int .i64 n) = w4 at *
        obtain ⟨x0, x1, x2, _, _, _⟩ := CX3.out
        cases hmay : Hth.mayC n x.i x.h with
        | false =>
          have HM := Hid.mk_ hmay.symm
          clear hmay
          go_wp2_with (go_at_call 39; refine (Hth.may1 n x.i x.h w4 false HM).mono ?_; rintro e w5 ⟨rfl, b5⟩)
          go_roundw
          case rel => exact ⟨k + 1, A', L, d, by go_num, by omega, Hid.mk_ (K2.out.below b5), NI, Hid.mk_ (BX2.out.keep b5), Hid.mk_ LO.out.mono, Hid.mk_ (BW2.out.trans (b5.mono BW2.out.size))⟩
          case measure => simp [intOf]; omega
        | true =>
          have HM := Hid.mk_ hmay.symm
          have UE := Hid.mk_ (up_eq (c := ⟨n, x.i, x.h⟩) LO.out rfl hmay)
          have PY := Hid.mk_ (put_yes (c := ⟨n, x.i, x.h⟩) LO.out rfl hmay)
          clear hmay
          obtain ⟨r, hr⟩ : ∃ r, r = Hth.cmpC x.i x.h d.i d.h := ⟨_, rfl⟩
          have HR := Hid.mk_ hr
          clear hr
          go_upto_region 10 with (go_at_call 39; refine (Hth.may1 n x.i x.h w4 true HM).mono ?_; rintro e w5 ⟨rfl, b5⟩)
          have CX5 := Hid.mk_ (CX3.out.keep b5)
          have K5 := Hid.mk_ (K2.out.below b5)
          have BX5 := Hid.mk_ (BX2.out.keep b5)
          have BW5 := Hid.mk_ (BW2.out.trans (b5.mono BW2.out.size))
          clear CX3 K2 BX2 BW2 b5 x0 x1 x2
          obtain ⟨x0, x1, x2, _, _, _⟩ := CX5.out
          obtain ⟨y0, y1, y2, _, _, _⟩ := BX5.out
          go_upto_region 11 with (go_at_call 40; refine (Hth.compare1 n x.i x.h d.n d.i d.h w5 r HR).mono ?_; rintro e w6 ⟨rfl, b6⟩)
          have CX6 := Hid.mk_ (CX5.out.keep b6)
          have K6 := Hid.mk_ (K5.out.below b6)
          have BX6 := Hid.mk_ (BX5.out.keep b6)
          have BW6 := Hid.mk_ (BW5.out.trans (b6.mono BW5.out.size))
          clear CX5 K5 BX5 BW5 b6 x0 x1 x2 y0 y1 y2
          obtain ⟨x0, x1, x2, _, _, _⟩ := CX6.out
          by_cases hr0 : 0 < r
          · have e1 : putB ⟨n, x.i, x.h⟩ L = true := by rw [UE.out]; exact decide_eq_true (by rw [← HR.out]; exact hr0)
            obtain ⟨e2, e3⟩ := PY.out e1
            have E1 := Hid.mk_ e1.symm
            have E2 := Hid.mk_ e2.symm
            have E3 := Hid.mk_ e3
            have hxh : (x.h != 0) = true := by
              have h1 : good ⟨n, x.i, x.h⟩ = true := by unfold putB at e1; rw [Bool.and_eq_true] at e1; exact e1.1
              have h2 := (good_iff _).1 h1
              simp only at h2
              simp; omega
            clear e1 e2 e3 UE PY
            go_upto_region 14 with (go_at_call 32; refine (put0 w6 g 20 A' L ⟨n, x.i, x.h⟩ K6 true E1 [one ⟨n, x.i, x.h⟩ (0 : Nat)] E2).mono ?_; rintro e w7 ⟨rfl, t7⟩)
            obtain ⟨A7, k7, f7, r7⟩ := t7.out
            have CX7 := Hid.mk_ (CX6.out.wr r7 NQ.out.1)
            have BX7 := Hid.mk_ (BX6.out.wr r7 NI.out)
            have NI7 : Hid (¬ Its g A7 p) := Hid.mk_ (fun hh => by
              rcases f7.its g p hh with h1 | h1
              · exact NI.out h1
              · have := BX6.out.lt; omega)
            have BW7 := Hid.mk_ (BW6.out.trans (K6.out.wrBelow r7 NP.out.2.2))
            have K7 := Hid.mk_ k7
            clear CX6 BX6 K6 BW6 k7 f7 r7 t7 x0 x1 x2
            obtain ⟨x0, x1, x2, _, _, _⟩ := CX7.out
            obtain ⟨y0, y1, y2, g0, g1, g2⟩ := BX7.out
            go_upto_region 15 with fail
            have BY := BX7.out.set n x.i x.h
            have ws := ((Wr.set w7 p 0 (.int .i64 n)).then_ (Wr.set _ p 1 (.int .i64 x.i)) (fun i hi => .inl hi)).then_ (Wr.set _ p 2 (.int .i64 x.h)) (fun i hi => .inl hi)
            have KY := Hid.mk_ (K7.out.wr ws (fun i hi e => by subst e; exact NI7.out hi))
            have BWY := Hid.mk_ (below_set (o := 2) (v := .int .i64 x.h) (below_set (o := 1) (v := .int .i64 x.i) (below_set (o := 0) (v := .int .i64 n) BW7.out NP.out.2.1) NP.out.2.1) NP.out.2.1)
            have BXY := Hid.mk_ BY
            clear BX7 BY ws K7 BW7 CX7 x0 x1 x2 y0 y1 y2 g0 g1 g2
            generalize ((w7.setCell ⟨p, 0, none⟩ (.int .i64 n)).setCell ⟨p, 1, none⟩ (.int .i64 x.i)).setCell ⟨p, 2, none⟩ (.int .i64 x.h) = wy at *
            have hcon := has0 wy g 20 A7 _ n KY (some (one ⟨n, x.i, x.h⟩ (0 : Nat))) (Hid.mk_ (qof_one ⟨n, x.i, x.h⟩ (0 : Nat)).symm)
            unfold hasV at hcon
            simp only [one] at hcon
            go_upto_region 16 with (go_at_call 35; refine hcon.mono ?_; rintro e w8' ⟨rfl, b7⟩)
            have al := b7.alloc b7.size (.cells #[.int .i64 n, .int .i64 x.i, .int .i64 x.h] 53)
            have K8 := Hid.mk_ (KY.out.below al)
            have BX8 := Hid.mk_ (BXY.out.keep al)
            have BW8 := Hid.mk_ (BWY.out.trans (al.mono BWY.out.size))
            have DX := Box3.made w8' n x.i x.h
            clear KY BXY BWY b7 al hcon
            generalize w8'.heap.size = p8 at *
            generalize w8'.alloc (.cells #[.int .i64 n, .int .i64 x.i, .int .i64 x.h] 53) = w8 at *
            obtain ⟨v0, v1, v2, _, _, _⟩ := DX
            obtain ⟨u0, u1, u2, _, _, _⟩ := BX8.out
            have hne := neq53_self n x.i x.h
            have NI8 := NI7
            have LO8 := E3
            go_upto_region 18 with fail
            by_cases h15 : (k : Int) < 15
            · obtain ⟨mm, hmm⟩ : ∃ mm, mm = many 1 ([one ⟨n, x.i, x.h⟩ (0 : Nat)]).length := ⟨_, rfl⟩
              have LT := Hid.mk_ (LO8.out.took (show k < 15 by omega))
              rw [← hmm] at LT
              have HMM := Hid.mk_ hmm
              clear hmm
              go_wp2_with (go_at_call 30; refine (take0 w8 g 20 A7 ([one ⟨n, x.i, x.h⟩ (0 : Nat)]) 1 K8 mm HMM).mono ?_; rintro e w9 ⟨P, np, cp, rfl, o9, n9, t9⟩)
              obtain ⟨A9, k9, f9, r9⟩ := t9.out
              go_roundw
              case rel => exact ⟨k + 1, A9, _, ⟨n, x.i, x.h⟩, by go_num, by omega, Hid.mk_ k9, Hid.mk_ (fun hh => by
                rcases f9.its g p hh with h1 | h1
                · exact NI8.out h1
                · have := BX8.out.lt; omega), Hid.mk_ (BX8.out.wr r9 NI8.out), LT, Hid.mk_ (BW8.out.trans (K8.out.wrBelow r9 NP.out.2.2))⟩
              case measure => simp [intOf]; omega
            · go_wp2_with fail
              go_roundw
              case rel => exact ⟨k + 1, A7, _, ⟨n, x.i, x.h⟩, by go_num, by omega, K8, NI8, BX8, Hid.mk_ LO8.out.mono, BW8⟩
              case measure => simp [intOf]; omega
          · have e1 : putB ⟨n, x.i, x.h⟩ L = false := by rw [UE.out]; exact decide_eq_false (by rw [← HR.out]; exact hr0)
            have E1 := Hid.mk_ e1.symm
            have E2 := Hid.mk_ (putQ_no e1).symm
            clear e1 UE PY
            go_upto_region 15 with (go_at_call 32; refine (put0 w6 g 20 A' L ⟨n, x.i, x.h⟩ K6 false E1 L E2).mono ?_; rintro e w7 ⟨rfl, t7⟩)
            obtain ⟨A7, k7, f7, r7⟩ := t7.out
            have BX7 := Hid.mk_ (BX6.out.wr r7 NI.out)
            have NI7 : Hid (¬ Its g A7 p) := Hid.mk_ (fun hh => by
              rcases f7.its g p hh with h1 | h1
              · exact NI.out h1
              · have := BX6.out.lt; omega)
            have BW7 := Hid.mk_ (BW6.out.trans (K6.out.wrBelow r7 NP.out.2.2))
            have K7 := Hid.mk_ k7
            clear CX6 BX6 K6 BW6 k7 f7 r7 t7 x0 x1 x2
            rcases LO.out.has with ⟨hd0, hqn⟩ | ⟨hd0, k', hLk, hqs⟩
            · have hcon := has0 w7 g 20 A7 L n K7 none (Hid.mk_ hqn.symm)
              unfold hasV at hcon
              have hdh : (d.h != 0) = false := by simp [hd0]
              clear hd0 hqn
              go_upto_region 16 with (go_at_call 35; refine hcon.mono ?_; rintro e w8' ⟨rfl, b7⟩)
              have al := b7.alloc b7.size (.cells #[.int .i64 0, .int .i64 0, .int .i64 0] 53)
              have K8 := Hid.mk_ (K7.out.below al)
              have BX8 := Hid.mk_ (BX7.out.keep al)
              have BW8 := Hid.mk_ (BW7.out.trans (al.mono BW7.out.size))
              clear K7 BX7 BW7 b7 al hcon
              generalize w8'.alloc (.cells #[.int .i64 0, .int .i64 0, .int .i64 0] 53) = w8 at *
              obtain ⟨u0, u1, u2, _, _, _⟩ := BX8.out
              have NI8 := NI7
              have LO8 := LO
              go_upto_region 18 with fail
              by_cases h15 : (k : Int) < 15
              · obtain ⟨mm, hmm⟩ : ∃ mm, mm = many 1 (L).length := ⟨_, rfl⟩
                have LT := Hid.mk_ (LO8.out.took (show k < 15 by omega))
                rw [← hmm] at LT
                have HMM := Hid.mk_ hmm
                clear hmm
                go_wp2_with (go_at_call 30; refine (take0 w8 g 20 A7 (L) 1 K8 mm HMM).mono ?_; rintro e w9 ⟨P, np, cp, rfl, o9, n9, t9⟩)
                obtain ⟨A9, k9, f9, r9⟩ := t9.out
                go_roundw
                case rel => exact ⟨k + 1, A9, _, d, by go_num, by omega, Hid.mk_ k9, Hid.mk_ (fun hh => by
                  rcases f9.its g p hh with h1 | h1
                  · exact NI8.out h1
                  · have := BX8.out.lt; omega), Hid.mk_ (BX8.out.wr r9 NI8.out), LT, Hid.mk_ (BW8.out.trans (K8.out.wrBelow r9 NP.out.2.2))⟩
                case measure => simp [intOf]; omega
              · go_wp2_with fail
                go_roundw
                case rel => exact ⟨k + 1, A7, _, d, by go_num, by omega, K8, NI8, BX8, Hid.mk_ LO8.out.mono, BW8⟩
                case measure => simp [intOf]; omega
            · have hcon := has0 w7 g 20 A7 L n K7 (some (one d k')) (Hid.mk_ hqs.symm)
              unfold hasV at hcon
              simp only [one] at hcon
              have hdh : (d.h != 0) = true := by simp [hd0]
              clear hd0 hqs hLk
              go_upto_region 16 with (go_at_call 35; refine hcon.mono ?_; rintro e w8' ⟨rfl, b7⟩)
              have al := b7.alloc b7.size (.cells #[.int .i64 d.n, .int .i64 d.i, .int .i64 d.h] 53)
              have K8 := Hid.mk_ (K7.out.below al)
              have BX8 := Hid.mk_ (BX7.out.keep al)
              have BW8 := Hid.mk_ (BW7.out.trans (al.mono BW7.out.size))
              have DX := Box3.made w8' d.n d.i d.h
              clear K7 BX7 BW7 b7 al hcon
              generalize w8'.heap.size = p8 at *
              generalize w8'.alloc (.cells #[.int .i64 d.n, .int .i64 d.i, .int .i64 d.h] 53) = w8 at *
              obtain ⟨v0, v1, v2, _, _, _⟩ := DX
              obtain ⟨u0, u1, u2, _, _, _⟩ := BX8.out
              have hne := neq53_self d.n d.i d.h
              have NI8 := NI7
              have LO8 := LO
              go_upto_region 18 with fail
              by_cases h15 : (k : Int) < 15
              · obtain ⟨mm, hmm⟩ : ∃ mm, mm = many 1 (L).length := ⟨_, rfl⟩
                have LT := Hid.mk_ (LO8.out.took (show k < 15 by omega))
                rw [← hmm] at LT
                have HMM := Hid.mk_ hmm
                clear hmm
                go_wp2_with (go_at_call 30; refine (take0 w8 g 20 A7 (L) 1 K8 mm HMM).mono ?_; rintro e w9 ⟨P, np, cp, rfl, o9, n9, t9⟩)
                obtain ⟨A9, k9, f9, r9⟩ := t9.out
                go_roundw
                case rel => exact ⟨k + 1, A9, _, d, by go_num, by omega, Hid.mk_ k9, Hid.mk_ (fun hh => by
                  rcases f9.its g p hh with h1 | h1
                  · exact NI8.out h1
                  · have := BX8.out.lt; omega), Hid.mk_ (BX8.out.wr r9 NI8.out), LT, Hid.mk_ (BW8.out.trans (K8.out.wrBelow r9 NP.out.2.2))⟩
                case measure => simp [intOf]; omega
              · go_wp2_with fail
                go_roundw
                case rel => exact ⟨k + 1, A7, _, d, by go_num, by omega, K8, NI8, BX8, Hid.mk_ LO8.out.mono, BW8⟩
                case measure => simp [intOf]; omega
    · obtain rfl : k = nl := by omega
      go_wp2_with (go_at_call 37; refine (awake _).mono ?_; rintro e w5 ⟨rfl, b5⟩)
      go_ret
      exact ⟨rfl, BW.out.trans (b5.mono BW.out.size)⟩
def sh0 : Sh := shC
theorem walk (w : World) (A : Option Addr) (n c : Nat) (h : RD w (.slice sh0) [.slice A n c]) (b : Int) (hb : (Lit.int .i64 b).wf = true) : Calls Try.prog 12 #[.slice A n c, .int .i64 b] w fun e w' => e = .returned (.bool true) ∧ Below w.heap.size w w' := by
  obtain ⟨ls, h1, h2, h3, h4⟩ := rd_claims h
  have h5 : n ≤ 9223372036854775807 := by unfold maxLen at h4; omega
  exact law A n c ls b w (Hid.mk_ h2) (Hid.mk_ h1.symm) h5 h3
end Go.Proofs.Ytoikadgfbjjfiaa.WRumorLouder
