/- RumorFirst: the walk of the law: those that were told least often come first, the lowest node first; no more than were asked for. Condition: the row lies in memory. -/
import Derived.Test.YtoikadgfbjjfiaaRpN
import Derived.Test.YtoikadgfbjjfiaaArr8
import Derived.Deep.CutRange
namespace Go.Proofs.Ytoikadgfbjjfiaa.WRumorFirst
open Go.RowKit Kit Rum Tri3 Arr8
set_option linter.unusedVariables false
/-- How often a node's claim was told. -/
def cnt (L : List Tld) (j : Nat) : Int := match qof (j : Int) L with | some t => t.n | none => -1
def cv (L : List Tld) (i : Nat) : Nat → Value := fun j => .int .i64 (if j < i then cnt L j else 0)
theorem cnt_at {L : List Tld} (h : St L) {t : Tld} (ht : t ∈ L) {a : Nat} (ha : t.node = (a : Int)) : cnt L a = t.n := by
  unfold cnt
  rw [← ha, h.find ht]
theorem told_get {L : List Tld} {m i : Nat} {c : Cl} (h : (toldQ m L)[i]? = some c) : ∃ t, L[i]? = some t ∧ c = clm t ∧ i < m := by
  unfold toldQ at h
  rw [List.getElem?_map, Option.map_eq_some_iff] at h
  obtain ⟨t, h1, rfl⟩ := h
  have hi : i < m := by
    rw [List.getElem?_take] at h1
    split at h1
    · assumption
    · cases h1
  rw [List.getElem?_take_of_lt hi] at h1
  exact ⟨t, h1, rfl, hi⟩
theorem next_lt {L : List Tld} (h : St L) {i : Nat} {s t : Tld} (hs : L[i]? = some s) (ht : L[i + 1]? = some t) : s.n < t.n ∨ (s.n = t.n ∧ s.node < t.node) := by
  obtain ⟨h1, rfl⟩ := List.getElem?_eq_some_iff.1 hs
  obtain ⟨h2, rfl⟩ := List.getElem?_eq_some_iff.1 ht
  have h3 := List.pairwise_iff_getElem.1 h.ord i (i + 1) h1 h2 (by omega)
  unfold ltT at h3
  split at h3 <;> simp at h3 <;> omega
theorem bounds {w : World} {base : Nat} {A : Option Addr} {n c : Nat} {cs : List Cl} (h : OwnC w base (.slice A n c) n cs) : n ≤ c ∧ c ≤ 9223372036854775807 := by
  obtain ⟨_, c', e, h1, h2, _⟩ := Rowz.form h.2
  injection e with _ _ e2
  omega
set_option maxRecDepth 100000 in
set_option maxHeartbeats 8000000 in
theorem law (A : Option Addr) (nl cl : Nat) (ls : List Cl) (n : Int) (w : World) (hA : Hid (ClAt w A ls)) (hn : Hid (nl = ls.length)) (hm : nl ≤ 9223372036854775807) (hcl : nl ≤ cl) :
    Calls Try.prog 13 #[.slice A nl cl, .int .i64 n] w fun e w' => e = .returned (.bool true) ∧ Below w.heap.size w w' := by
  go_enter Try.func13, Try.ntmps13
  go_upto_region 2 with (go_at_call 27; refine (new0 _ 5 5 (Hid.mk_ rfl)).mono ?_; rintro e w1 ⟨g, rfl, h1, hg, b1⟩)
  go_wp2_with fail
  go_loopw [20] (fun z wr => ∃ (k : Nat) (A' : Option Addr) (L : List Tld), z = .int .i64 (k : Int) ∧ k ≤ nl ∧ Hid (Que wr g 5 A' L) ∧ Hid (Below w.heap.size w wr)) (fun z _ => nl - (intOf z).toNat)
  case atStart => exact ⟨0, none, [], rfl, by omega, h1, Hid.mk_ b1⟩
  case round =>
    clear h1 b1
    obtain ⟨k, A', L, rfl, hk, K, BW⟩ := hrel
    by_cases hlt : k < nl
    · obtain ⟨x, hx⟩ : ∃ x, ls[k]? = some x := ⟨_, List.getElem?_eq_getElem (by have := hn.out; omega)⟩
      obtain ⟨b, off, rfl, bl, c0, c1, c2⟩ := hA.out k x hx
      replace c0 := keep1 BW.out c0
      replace c1 := keep1 BW.out c1
      replace c2 := keep1 BW.out c2
      clear hx bl
      have l1 : (k : Int) < (nl : Int) := by omega
      have l0 : (0 : Int) ≤ (k : Int) := by omega
      go_upto_region 5 with fail
      have al := (Below.refl wr.heap.size wr).alloc (Nat.le_refl _) (.cells #[.int .i64 x.n, .int .i64 x.i, .int .i64 x.h] 53)
      have CX := Hid.mk_ (Box3.made wr x.n x.i x.h)
      have K1 := Hid.mk_ (K.out.below al)
      have BW1 := Hid.mk_ (BW.out.trans (al.mono BW.out.size))
      clear c0 c1 c2 al K BW
      generalize wr.heap.size = q at *
      generalize wr.alloc (.cells #[.int .i64 x.n, .int .i64 x.i, .int .i64 x.h] 53) = w3 at *
      obtain ⟨x0, x1, x2, _, _, _⟩ := CX.out
      by_cases h50 : (k : Int) < 50
      · go_wp2_with (go_at_call 32; refine (put0 w3 g 5 A' L x K1 _ (Hid.mk_ rfl) _ (Hid.mk_ rfl)).mono ?_; rintro e w4 ⟨rfl, t4⟩)
        obtain ⟨A4, k4, f4, r4⟩ := t4.out
        go_roundw
        case rel => exact ⟨k + 1, A4, _, by go_num, by omega, Hid.mk_ k4, Hid.mk_ (BW1.out.trans (K1.out.wrBelow r4 hg.out))⟩
        case measure => simp [intOf]; omega
      · go_wp2_with fail
        go_roundw
        case rel => exact ⟨k + 1, A', L, by go_num, by omega, K1, BW1⟩
        case measure => simp [intOf]; omega
    · obtain rfl : k = nl := by omega
      clear hk
      go_wp2_with fail
      obtain ⟨wo, rfl⟩ : ∃ wo : World, wo = wr := ⟨_, rfl⟩
      go_loopw [31] (fun z wr => ∃ (r : Nat) (A' : Option Addr) (L : List Tld), z = .int .i64 (r : Int) ∧ r ≤ 6 ∧ Hid (Que wr g 5 A' L) ∧ Hid (Below w.heap.size w wr)) (fun z _ => 6 - (intOf z).toNat)
      case atStart => exact ⟨0, A', L, rfl, by omega, K, BW⟩
      case round =>
        clear K BW
        obtain ⟨r, A', L, rfl, hr, K, BW⟩ := hrel
        by_cases hr6 : r < 6
        · have hr7 : (r : Int) < 6 := by omega
          go_upto_region 11 with fail
          have al := (Below.refl wr.heap.size wr).alloc (Nat.le_refl _) (.cells #[.int .i64 0, .int .i64 0, .int .i64 0, .int .i64 0, .int .i64 0, .int .i64 0, .int .i64 0, .int .i64 0] 70)
          have AR : Hid (Arr (wr.alloc (.cells #[.int .i64 0, .int .i64 0, .int .i64 0, .int .i64 0, .int .i64 0, .int .i64 0, .int .i64 0, .int .i64 0] 70)) wr.heap.size 70 (cv L 0)) := Hid.mk_ ((show Arr _ _ _ (fun _ => .int .i64 0) from heap_alloc_new wr _).congr fun k _ => by simp [cv])
          have K1 := Hid.mk_ (K.out.below al)
          have BW1 := Hid.mk_ (BW.out.trans (al.mono BW.out.size))
          obtain ⟨pc, hpc⟩ : ∃ pc, pc = wr.heap.size := ⟨_, rfl⟩
          have NP : Hid (¬ Its g A' pc ∧ w.heap.size ≤ pc) := Hid.mk_ ⟨fun h => by have := K.out.its pc h; omega, by have := BW.out.size; omega⟩
          rw [← hpc] at AR ⊢
          clear al K BW hpc
          generalize wr.alloc (.cells #[.int .i64 0, .int .i64 0, .int .i64 0, .int .i64 0, .int .i64 0, .int .i64 0, .int .i64 0, .int .i64 0] 70) = wa at *
          go_wp2_with fail
          obtain ⟨wo, rfl⟩ : ∃ wo : World, wo = wr := ⟨_, rfl⟩
          go_loopw [33] (fun z wr => ∃ (i : Nat), z = .int .i64 (i : Int) ∧ i ≤ 8 ∧ Hid (Arr wr pc 70 (cv L i)) ∧ Hid (Que wr g 5 A' L) ∧ Hid (Below w.heap.size w wr)) (fun z _ => 8 - (intOf z).toNat)
          case atStart => exact ⟨0, rfl, by omega, AR, K1, BW1⟩
          case round =>
            clear AR K1 BW1
            obtain ⟨i, rfl, hi, AR, K, BW⟩ := hrel
            by_cases hi8 : i < 8
            · have i1 : (i : Int) < 8 := by omega
              have i0 : (0 : Int) ≤ (i : Int) := by omega
              have ca := AR.out.cell i hi8
              have fa := AR.out.frozen i
              have cs := (World.cell?_setCell_same wr ⟨pc, i, none⟩ (.int .i64 (-1)) ca)
              have ws := Wr.set wr pc i (.int .i64 (-1))
              have AR2 := Hid.mk_ (AR.out.set i hi8 (.int .i64 (-1)))
              have K2 := Hid.mk_ (K.out.wr ws (fun j hj e => by subst e; exact NP.out.1 hj))
              have BW2 := Hid.mk_ (below_set (o := i) (v := .int .i64 (-1)) BW.out NP.out.2)
              unfold cv at ca
              go_upto_region 15 with fail
              clear ca fa cs ws AR K BW
              generalize wr.setCell ⟨pc, i, none⟩ (.int .i64 (-1)) = w3 at *
              cases hq : qof (i : Int) L with
              | none =>
                have hcon := has0 w3 g 5 A' L (i : Int) K2 none (Hid.mk_ hq.symm)
                unfold hasV at hcon
                have hcg : ∀ j, j < 8 → upd (cv L i) i (.int .i64 (-1)) j = cv L (i + 1) j := fun j _ => by
                  unfold upd cv
                  by_cases e : j = i
                  · subst e; rw [if_pos rfl, if_pos (by omega)]; unfold cnt; rw [hq]
                  · rw [if_neg e]
                    by_cases e2 : j < i
                    · rw [if_pos e2, if_pos (by omega)]
                    · rw [if_neg e2, if_neg (by omega)]
                have AR3 := Hid.mk_ (AR2.out.congr hcg)
                clear hq hcg AR2
                go_wp2_with (go_at_call 35; refine hcon.mono ?_; rintro e w4 ⟨rfl, b4⟩)
                have al := b4.alloc b4.size (.cells #[.int .i64 0, .int .i64 0, .int .i64 0] 53)
                go_roundw
                case rel => exact ⟨i + 1, by go_num, by omega, Hid.mk_ (AR3.out.below al), Hid.mk_ (K2.out.below al), Hid.mk_ (BW2.out.trans (al.mono BW2.out.size))⟩
                case measure => simp [intOf]; omega
              | some t =>
                have hcon := has0 w3 g 5 A' L (i : Int) K2 (some t) (Hid.mk_ hq.symm)
                unfold hasV at hcon
                have hcg : ∀ j, j < 8 → upd (upd (cv L i) i (.int .i64 (-1))) i (.int .i64 t.n) j = cv L (i + 1) j := fun j _ => by
                  unfold upd cv
                  by_cases e : j = i
                  · subst e; rw [if_pos rfl, if_pos (by omega)]; unfold cnt; rw [hq]
                  · rw [if_neg e, if_neg e]
                    by_cases e2 : j < i
                    · rw [if_pos e2, if_pos (by omega)]
                    · rw [if_neg e2, if_neg (by omega)]
                have HCG := Hid.mk_ hcg
                clear hq hcg
                go_upto_region 16 with (go_at_call 35; refine hcon.mono ?_; rintro e w4 ⟨rfl, b4⟩)
                have al := b4.alloc b4.size (.cells #[.int .i64 t.node, .int .i64 t.inc, .int .i64 t.hl] 53)
                have AR3 := Hid.mk_ (AR2.out.below al)
                have K3 := Hid.mk_ (K2.out.below al)
                have BW3 := Hid.mk_ (BW2.out.trans (al.mono BW2.out.size))
                clear al b4 hcon AR2 K2 BW2
                generalize w4.alloc (.cells #[.int .i64 t.node, .int .i64 t.inc, .int .i64 t.hl] 53) = w5 at *
                have ca := AR3.out.cell i hi8
                have fa := AR3.out.frozen i
                have ws := Wr.set w5 pc i (.int .i64 t.n)
                unfold upd at ca
                rw [if_pos rfl] at ca
                go_wp2_with fail
                go_roundw
                case rel => exact ⟨i + 1, by go_num, by omega, Hid.mk_ ((AR3.out.set i hi8 (.int .i64 t.n)).congr HCG.out), Hid.mk_ (K3.out.wr ws (fun j hj e => by subst e; exact NP.out.1 hj)), Hid.mk_ (below_set (o := i) (v := .int .i64 t.n) BW3.out NP.out.2)⟩
                case measure => simp [intOf]; omega
            · obtain rfl : i = 8 := by omega
              obtain ⟨rl, hrl⟩ : ∃ rl : Int, rl = (L.length : Int) := ⟨_, rfl⟩
              obtain ⟨m, hmm⟩ : ∃ m, m = many n L.length := ⟨_, rfl⟩
              have HRL := Hid.mk_ hrl
              have HM := Hid.mk_ hmm
              have hL8 := Hid.mk_ K.out.st.len
              clear hrl hmm hi hi8
              go_upto_region 21 with (first
                | (go_at_call 34; refine (len _ g 5 A' L K rl HRL).mono ?_; rintro e w8 ⟨rfl, rfl⟩)
                | (go_at_call 30; refine (take0 _ g 5 A' L n K m HM).mono ?_; rintro e w9 ⟨P, np, cp, rfl, o9, n9, t9⟩))
              obtain ⟨A9, k9, f9, r9⟩ := t9.out
              obtain rfl : np = m := n9.out
              have AR9 := Hid.mk_ (AR.out.keep (r9.block pc AR.out.lt NP.out.1))
              have RW9 := Hid.mk_ o9.out.row
              have K9 := Hid.mk_ k9
              have BW9 := Hid.mk_ (BW.out.trans (K.out.wrBelow r9 hg.out))
              have ST := Hid.mk_ K.out.st
              have LT9 := Hid.mk_ K.out.lt
              have LN := Hid.mk_ o9.out.1
              obtain ⟨hcp, hcp2⟩ := bounds o9.out
              clear t9 k9 f9 r9 AR K BW o9 n9
              go_cut [31, 61] from 31 to 128 (fun s31 s61 wx => s31 = .int .i64 (r : Int) ∧ s61 = .bool false ∧ wx = w9)
              case first =>
                by_cases hn0 : n < 0
                · obtain rfl : np = 0 := by have h1 := HM.out; unfold many at h1; omega
                  have h2 : n < rl := by have := HRL.out; omega
                  have h3 : ¬ rl < n := by omega
                  have h4 : ¬ (0 : Int) < n := by omega
                  go_wp2_with fail
                  go_meet
                  exact ⟨rfl, rfl, rfl⟩
                · by_cases hnr : n < rl
                  · have e1 : (np : Int) = n := by have h1 := HM.out; have := HRL.out; unfold many at h1; omega
                    have h3 : ¬ rl < n := by omega
                    go_wp2_with fail
                    all_goals (go_meet; refine ⟨rfl, ?_, rfl⟩; first | rfl | (congr 1; simp; omega))
                  · have e1 : (np : Int) = rl := by have h1 := HM.out; have := HRL.out; unfold many at h1; omega
                    go_wp2_with fail
                    all_goals (go_meet; refine ⟨rfl, ?_, rfl⟩; first | rfl | (congr 1; simp; omega))
              case rest =>
                obtain ⟨rfl, rfl, ew⟩ := hcut
                have ew2 := ew.symm
                subst ew2
                clear ew
                have hnp : np ≤ 8 := by have h1 := HM.out; have := hL8.out; unfold many at h1; omega
                go_wp2_with fail
                go_loopw [64] (fun z wr => ∃ (i : Nat), z = .int .i64 (i : Int) ∧ i ≤ np ∧ Hid (Below w9.heap.size w9 wr)) (fun z _ => np - (intOf z).toNat)
                case atStart => exact ⟨0, rfl, by omega, Hid.mk_ (Below.refl _ _)⟩
                case round =>
                  obtain ⟨i, rfl, hi, BB⟩ := hrel
                  by_cases hin : i < np
                  · have i1 : (i : Int) < (np : Int) := by omega
                    have i0 : (0 : Int) ≤ (i : Int) := by omega
                    obtain ⟨c, hc⟩ : ∃ c, (toldQ np L)[i]? = some c := ⟨_, List.getElem?_eq_getElem (by have := LN.out; omega)⟩
                    obtain ⟨t, ht, rfl, _⟩ := told_get hc
                    obtain ⟨b, off, rfl, _, x0, x1, x2⟩ := RW9.out i _ hc
                    have tok := ST.out.ok t (List.mem_of_getElem? ht)
                    obtain ⟨a, ha⟩ : ∃ a : Nat, t.node = (a : Int) := ⟨t.node.toNat, by omega⟩
                    have ha8 : a < 8 := by omega
                    have hct := cnt_at ST.out (List.mem_of_getElem? ht) ha
                    have y0 := keep1 BB.out x0
                    have y1 := keep1 BB.out x1
                    have y2 := keep1 BB.out x2
                    simp only [clm] at y0 y1 y2
                    rw [ha] at y0
                    have AR := AR9.out.below BB.out
                    go_upto_region 26 with fail
                    have al := (Below.refl wr.heap.size wr).alloc (Nat.le_refl _) (.cells #[.int .i64 (a : Int), .int .i64 t.inc, .int .i64 t.hl] 53)
                    have CX := Hid.mk_ (Box3.made wr (a : Int) t.inc t.hl)
                    have AR1 := Hid.mk_ (AR.below al)
                    have B1 := Hid.mk_ (BB.out.trans (al.mono BB.out.size))
                    clear y0 y1 y2 AR al x0 x1 x2
                    generalize wr.heap.size = q at *
                    generalize wr.alloc (.cells #[.int .i64 (a : Int), .int .i64 t.inc, .int .i64 t.hl] 53) = w3 at *
                    obtain ⟨x0, x1, x2, _, _, _⟩ := CX.out
                    have ca := AR1.out.cell a ha8
                    unfold cv at ca
                    rw [if_pos ha8, hct] at ca
                    have tn := LT9.out t (List.mem_of_getElem? ht)
                    have a0 : (0 : Int) ≤ (a : Int) := by omega
                    have a1 : (a : Int) < 8 := by omega
                    have a2 : ¬ (8 : Int) ≤ (a : Int) := by omega
                    have a3 : ¬ (a : Int) < 0 := by omega
                    have t0 : ¬ t.n < 0 := by omega
                    go_upto_region 28 with fail
                    cases i with
                    | zero =>
                      rw [show ((0 : Nat) : Int) = 0 from rfl]
                      refine wp_draws w3 (Below.refl _ _) (by kernel_rfl) (by kernel_rfl) (fun hne hN => ?_)
                      repeat (go_big_quiet_step (fail))
                      refine wpQuiet_nil (after_cells ?_)
                      intro w4 b4 _
                      go_wp2_with fail
                      go_roundw
                      case rel => exact ⟨1, rfl, by omega, Hid.mk_ (B1.out.trans (b4.mono B1.out.size))⟩
                      case measure => simp [intOf]; omega
                    | succ j =>
                      obtain ⟨c', hc'⟩ : ∃ c', (toldQ np L)[j]? = some c' := ⟨_, List.getElem?_eq_getElem (by have := LN.out; omega)⟩
                      obtain ⟨s, hs, rfl, _⟩ := told_get hc'
                      obtain ⟨b', off', eb, _, z0, z1, z2⟩ := RW9.out j _ hc'
                      injection eb with eb
                      injection eb with eb1 eb2
                      subst eb1 eb2
                      have sok := ST.out.ok s (List.mem_of_getElem? hs)
                      obtain ⟨e, he⟩ : ∃ e : Nat, s.node = (e : Int) := ⟨s.node.toNat, by omega⟩
                      have he8 : e < 8 := by omega
                      have hcs := cnt_at ST.out (List.mem_of_getElem? hs) he
                      have hord := next_lt ST.out hs ht
                      replace z0 := keep1 B1.out z0
                      simp only [clm] at z0
                      rw [he] at z0
                      have ce := AR1.out.cell e he8
                      unfold cv at ce
                      rw [if_pos he8, hcs] at ce
                      have lt1 := World.block_lt_of_cell? _ _ z0
                      have lt2 := AR1.out.lt
                      have lt3 := CX.out.lt
                      have e0 : (0 : Int) ≤ (e : Int) := by omega
                      have e1 : (e : Int) < 8 := by omega
                      have hl : decide (t.n < s.n) = false := decide_eq_false (by omega)
                      have hj0 : (0 : Int) ≤ (j : Int) := by omega
                      have hj1 : (j : Int) < (np : Int) := by omega
                      obtain ⟨z, hz⟩ : ∃ z : Int, z = ((j + 1 : Nat) : Int) := ⟨_, rfl⟩
                      rw [← hz]
                      have hzb : decide ((0 : Int) < z) = true := decide_eq_true (by omega)
                      have hzw : IntKind.i64.wrap (z - 1) = (j : Int) := by rw [IntWalk.i64_in _ (by omega)]; omega
                      have HZ := Hid.mk_ hz
                      have hz1 : z < 1000 := by omega
                      have hz2 : 0 < z := by omega
                      by_cases hsn : t.n = s.n
                      · have hb : (t.n == s.n) = true := by simp [hsn]
                        have hle : decide ((a : Int) ≤ (e : Int)) = false := decide_eq_false (by omega)
                        have hle2 : ¬ a ≤ e := by omega
                        have hle3 : ¬ (a : Int) ≤ (e : Int) := by omega
                        clear hz hord sok tok hs hc' hcs hct ht hc he ha hsn x1 x2 z1 z2 i1 i0
                        refine wp_draws w3 (Below.refl _ _) (by kernel_rfl) (by kernel_rfl) (fun hne hN => ?_)
                        repeat (go_big_quiet_step (fail))
                        refine wpQuiet_nil (after_cells ?_)
                        intro w4 b4 _
                        go_wp2_with fail
                        go_roundw
                        case rel => exact ⟨j + 1 + 1, by rw [HZ.out]; go_num, by omega, Hid.mk_ (B1.out.trans (b4.mono B1.out.size))⟩
                        case measure => have h9 := HZ.out; simp [intOf]; omega
                      · have hb : (t.n == s.n) = false := by simp [hsn]
                        clear hz hord sok tok hs hc' hcs hct ht hc he ha hsn x1 x2 z1 z2 i1 i0
                        refine wp_draws w3 (Below.refl _ _) (by kernel_rfl) (by kernel_rfl) (fun hne hN => ?_)
                        repeat (go_big_quiet_step (fail))
                        refine wpQuiet_nil (after_cells ?_)
                        intro w4 b4 _
                        go_wp2_with fail
                        go_roundw
                        case rel => exact ⟨j + 1 + 1, by rw [HZ.out]; go_num, by omega, Hid.mk_ (B1.out.trans (b4.mono B1.out.size))⟩
                        case measure => have h9 := HZ.out; simp [intOf]; omega
                  · obtain rfl : i = np := by omega
                    go_wp2_with fail
                    go_roundw
                    case rel => exact ⟨r + 1, A9, _, by go_num, by omega, Hid.mk_ (K9.out.below BB.out), Hid.mk_ (BW9.out.trans (BB.out.mono BW9.out.size))⟩
                    case measure => simp [intOf]; omega
        · obtain rfl : r = 6 := by omega
          go_wp2_with (go_at_call 37; refine (awake _).mono ?_; rintro e w5 ⟨rfl, b5⟩)
          go_ret
          exact ⟨rfl, BW.out.trans (b5.mono BW.out.size)⟩
def sh0 : Sh := shC
theorem walk (w : World) (A : Option Addr) (n c : Nat) (h : RD w (.slice sh0) [.slice A n c]) (b : Int) (hb : (Lit.int .i64 b).wf = true) : Calls Try.prog 13 #[.slice A n c, .int .i64 b] w fun e w' => e = .returned (.bool true) ∧ Below w.heap.size w w' := by
  obtain ⟨ls, h1, h2, h3, h4⟩ := rd_claims h
  have h5 : n ≤ 9223372036854775807 := by unfold maxLen at h4; omega
  exact law A n c ls b w (Hid.mk_ h2) (Hid.mk_ h1.symm) h5 h3
end Go.Proofs.Ytoikadgfbjjfiaa.WRumorFirst
