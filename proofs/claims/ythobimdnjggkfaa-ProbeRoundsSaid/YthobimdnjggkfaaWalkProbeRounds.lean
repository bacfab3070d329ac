/- ProbeRounds: the walk of the law: in each round each is asked once. Condition: the rows lie in memory. -/
import Derived.Test.YthobimdnjggkfaaPrT
namespace Go.Proofs.Ythobimdnjggkfaa.WProbeRounds
open Go.RowKit Kit Prb
set_option linter.unusedVariables false
theorem big (me : Int) (A B : Option Addr) (n c n' c' : Nat) (w : World) (h : 100 < n ∨ 80 < n') (hm : n ≤ 9223372036854775807) (hm' : n' ≤ 9223372036854775807) :
    Calls Try.prog 6 #[.int .i64 me, .slice A n c, .slice B n' c'] w fun e w' => e = .returned (.bool true) ∧ Below w.heap.size w w' := by
  by_cases h1 : 100 < n
  · go_enter Try.func6, Try.ntmps6
    go_wp2_with fail
    refine Calls.cells (awakeP _) ?_
    intro w3 h3 c3
    go_wp2_with fail
    go_ret
    exact ⟨rfl, h3⟩
  · have h2 : 80 < n' := by omega
    clear h
    go_enter Try.func6, Try.ntmps6
    go_wp2_with fail
    refine Calls.cells (awakeP _) ?_
    intro w3 h3 c3
    go_wp2_with fail
    go_ret
    exact ⟨rfl, h3⟩
def ins (s : List Int) (k : Nat) : Value := .int .i64 (if (k : Int) ∈ s then 1 else 0)
set_option maxRecDepth 100000 in
set_option maxHeartbeats 4000000 in
theorem small (me : Int) (A B : Option Addr) (n c n' c' : Nat) (xs ds : List Int) (w : World) (hr : Hid (Row w A xs)) (hn : Hid (n = xs.length)) (hr' : Hid (RowU w B ds)) (hn' : Hid (n' = ds.length)) (h : n ≤ 100) (h' : n' ≤ 80) :
    Calls Try.prog 6 #[.int .i64 me, .slice A n c, .slice B n' c'] w fun e w' => e = .returned (.bool true) ∧ Below w.heap.size w w' := by
  go_enter Try.func6, Try.ntmps6
  go_upto_region 5 with fail
  have a0 : Arr (w.alloc (.cells #[.int .i64 0, .int .i64 0, .int .i64 0, .int .i64 0, .int .i64 0, .int .i64 0, .int .i64 0, .int .i64 0] 30)) w.heap.size 30 (ins (br me (xs.take 0) 8)) :=
    (show Arr _ _ _ (fun _ => .int .i64 0) from heap_alloc_new w _).congr fun k _ => by simp [ins, mem_br]
  have b0 : Below w.heap.size w (w.alloc (.cells #[.int .i64 0, .int .i64 0, .int .i64 0, .int .i64 0, .int .i64 0, .int .i64 0, .int .i64 0, .int .i64 0] 30)) := (Below.refl _ _).alloc (Nat.le_refl _) _
  have A0 := Hid.mk_ a0
  have B0 := Hid.mk_ b0
  clear a0 b0
  go_wp2_with fail
  go_loopw [8, 10, 29] (fun v _ i wr => ∃ (j m : Nat), j ≤ n ∧ i = .int .i64 (j : Int) ∧ v = .int .i64 (m : Int) ∧ m ≤ j ∧ Hid (m = (br me (xs.take j) 8).length) ∧ Hid (Arr wr w.heap.size 30 (ins (br me (xs.take j) 8))) ∧ Hid (Below w.heap.size w wr)) (fun _ _ i _ => n - (intOf i).toNat)
  case atStart => exact ⟨0, 0, by omega, rfl, rfl, by omega, Hid.mk_ (by
    refine (List.length_eq_zero_iff.2 (List.eq_nil_iff_forall_not_mem.2 fun x hx => ?_)).symm
    obtain ⟨_, _, _, _, h⟩ := mem_br.1 hx
    simp at h), A0, B0⟩
  case round =>
    clear A0 B0
    obtain ⟨j, m, hj, rfl, rfl, hmj, hm, ha, hb⟩ := hrel
    by_cases hlt : j < n
    · obtain ⟨x, hx⟩ : ∃ x, xs[j]? = some x := ⟨_, List.getElem?_eq_getElem (by have := hn.out; omega)⟩
      obtain ⟨b1, o1, rfl, cx⟩ := (hr.out.keep fun b _ _ hlt => hb.out.block b hlt) j x hx
      have hst : xs.take (j + 1) = xs.take j ++ [x] := by rw [List.take_add_one, hx]; rfl
      have HX := Hid.mk_ hst
      have HL := Hid.mk_ (br_add me (xs.take j) x 8)
      rw [← hst] at HL
      clear hx hst
      by_cases h8 : 0 ≤ x ∧ x < 8
      · obtain ⟨a, rfl⟩ : ∃ a : Nat, x = (a : Int) := ⟨x.toNat, by omega⟩
        have a8 : a < 8 := by omega
        clear h8
        by_cases hme : (a : Int) = me
        · subst hme
          have e : ∀ k, k < 8 → ins (br (a : Int) (xs.take j) 8) k = ins (br (a : Int) (xs.take (j + 1)) 8) k := fun k _ => by
            unfold ins
            have : ((k : Int) ∈ br (a : Int) (xs.take (j + 1)) 8) ↔ ((k : Int) ∈ br (a : Int) (xs.take j) 8) := by
              rw [mem_br, mem_br, HX.out]
              constructor
              · rintro ⟨i, h1, h2, h3, h4⟩
                exact ⟨i, h1, h2, h3, by simpa [h3] using h4⟩
              · rintro ⟨i, h1, h2, h3, h4⟩
                exact ⟨i, h1, h2, h3, by simp [h4]⟩
            simp only [this]
          have hm2 := hm.out
          have hL2 := HL.out
          rw [if_neg (fun h => h.2.2.1 rfl)] at hL2
          have M2 := Hid.mk_ (hm2.trans hL2.symm)
          clear hm2 hL2 hm HL
          go_wp2_with fail
          refine Calls.cells (node (a : Int) true (Hid.mk_ (by simp; omega)) _) ?_
          intro w2 b2 _
          have A2 := Hid.mk_ ((ha.out.below b2).congr e)
          have B2 := Hid.mk_ (hb.out.trans (b2.mono hb.out.size))
          go_wp2_with fail
          go_roundw
          case rel => exact ⟨j + 1, m, by omega, by go_num, by go_num, by omega, M2, A2, B2⟩
          case measure => simp [intOf]; omega
        · go_wp2_with fail
          refine Calls.cells (node (a : Int) true (Hid.mk_ (by simp; omega)) _) ?_
          intro w2 b2 _
          have A2 := Hid.mk_ (ha.out.below b2)
          have B2 := Hid.mk_ (hb.out.trans (b2.mono hb.out.size))
          have ca := A2.out.cell a a8
          have fa := A2.out.frozen a
          have i0 : (0 : Int) ≤ (a : Int) := by omega
          have i1 : (a : Int) < 8 := by omega
          have hin : ((a : Int) ∈ br me (xs.take j) 8) ↔ (a : Int) ∈ xs.take j := by
            rw [mem_br]
            exact ⟨fun ⟨_, _, _, _, h⟩ => h, fun h => ⟨a, a8, rfl, hme, h⟩⟩
          have hmem : ∀ k : Nat, ((k : Int) ∈ br me (xs.take (j + 1)) 8) ↔ ((k : Int) ∈ br me (xs.take j) 8 ∨ k = a) := fun k => by
            rw [mem_br, mem_br, HX.out]
            constructor
            · rintro ⟨i, h1, h2, h3, h4⟩
              simp only [List.mem_append, List.mem_singleton] at h4
              rcases h4 with h4 | h4
              · exact .inl ⟨i, h1, h2, h3, h4⟩
              · exact .inr (by omega)
            · rintro (⟨i, h1, h2, h3, h4⟩ | rfl)
              · exact ⟨i, h1, h2, h3, by simp [h4]⟩
              · exact ⟨k, a8, rfl, hme, by simp⟩
          have hL2 := HL.out
          by_cases hold : (a : Int) ∈ xs.take j
          · rw [if_neg (fun h => h.2.2.2 hold)] at hL2
            have M2 := Hid.mk_ (hm.out.trans hL2.symm)
            have A3 := Hid.mk_ (A2.out.congr (g := ins (br me (xs.take (j + 1)) 8)) fun k _ => by
              unfold ins
              have : ((k : Int) ∈ br me (xs.take (j + 1)) 8) ↔ ((k : Int) ∈ br me (xs.take j) 8) := (hmem k).trans ⟨fun h => h.elim id (fun e => by rw [e]; exact hin.2 hold), .inl⟩
              simp only [this])
            rw [show ins (br me (xs.take j) 8) a = .int .i64 1 by unfold ins; rw [if_pos (hin.2 hold)]] at ca
            clear hL2 hmem hin hm HL A2
            go_wp2_with fail
            go_roundw
            case rel => exact ⟨j + 1, m, by omega, by go_num, by go_num, by omega, M2, A3, B2⟩
            case measure => simp [intOf]; omega
          · rw [if_pos ⟨by omega, by omega, hme, hold⟩] at hL2
            have M2 : Hid (m + 1 = (br me (xs.take (j + 1)) 8).length) := Hid.mk_ (by rw [hL2, ← hm.out])
            have A3 := Hid.mk_ ((A2.out.set a a8 (.int .i64 1)).congr (g := ins (br me (xs.take (j + 1)) 8)) fun k _ => by
              unfold upd ins
              by_cases hk : k = a
              · rw [if_pos hk, if_pos ((hmem k).2 (.inr hk))]
              · rw [if_neg hk]
                have : ((k : Int) ∈ br me (xs.take (j + 1)) 8) ↔ ((k : Int) ∈ br me (xs.take j) 8) := (hmem k).trans ⟨fun h => h.elim id (fun e => absurd e hk), .inl⟩
                simp only [this])
            have B3 := Hid.mk_ (B2.out.trans ((Below.refl w.heap.size w2).setCell (p := ⟨w.heap.size, a, none⟩) (Nat.le_refl _) (.int .i64 1)))
            rw [show ins (br me (xs.take j) 8) a = .int .i64 0 by unfold ins; rw [if_neg (fun h => hold (hin.1 h))]] at ca
            clear hL2 hmem hin hm HL A2 B2
            go_wp2_with fail
            go_roundw
            case rel => exact ⟨j + 1, m + 1, by omega, by go_num, by go_num, by omega, M2, A3, B3⟩
            case measure => simp [intOf]; omega
      · have e : ∀ k, k < 8 → ins (br me (xs.take j) 8) k = ins (br me (xs.take (j + 1)) 8) k := fun k hk => by
          unfold ins
          have : ((k : Int) ∈ br me (xs.take (j + 1)) 8) ↔ ((k : Int) ∈ br me (xs.take j) 8) := by
            rw [mem_br, mem_br, HX.out]
            constructor
            · rintro ⟨i, h1, h2, h3, h4⟩
              simp only [List.mem_append, List.mem_singleton] at h4
              rcases h4 with h4 | h4
              · exact ⟨i, h1, h2, h3, h4⟩
              · exact absurd ⟨by omega, by omega⟩ h8
            · rintro ⟨i, h1, h2, h3, h4⟩
              exact ⟨i, h1, h2, h3, by simp [h4]⟩
          simp only [this]
        have hL2 := HL.out
        rw [if_neg (fun h => h8 ⟨h.1, h.2.1⟩)] at hL2
        have M2 := Hid.mk_ (hm.out.trans hL2.symm)
        clear hL2 hm HL
        go_wp2_with fail
        refine Calls.cells (node x false (Hid.mk_ (by simp; omega)) _) ?_
        intro w2 b2 _
        have A2 := Hid.mk_ ((ha.out.below b2).congr e)
        have B2 := Hid.mk_ (hb.out.trans (b2.mono hb.out.size))
        go_wp2_with fail
        go_roundw
        case rel => exact ⟨j + 1, m, by omega, by go_num, by go_num, by omega, M2, A2, B2⟩
        case measure => simp [intOf]; omega
    · obtain rfl : j = n := by omega
      rw [List.take_of_length_le (by have := hn.out; omega)] at ha hm
      have hone : Hid (∀ x, (br me xs 8).count x ≤ 1) := Hid.mk_ (fun x => br_count me xs x 8)
      have hrng : Hid (∀ x, x ∈ br me xs 8 → ∃ a : Nat, a < 8 ∧ x = (a : Int)) := Hid.mk_ (fun x hx => by obtain ⟨i, h1, h2, _⟩ := mem_br.1 hx; exact ⟨i, h1, h2⟩)
      have hl8 := br_len me xs 8
      obtain ⟨l, hl⟩ : ∃ l, br me xs 8 = l := ⟨_, rfl⟩
      rw [hl] at hone hrng hl8 ha hm
      have HL := Hid.mk_ hl
      clear hl
      have hm8 : m ≤ 8 := by have := hm.out; omega
      go_wp2_with fail
      refine (new me _).mono ?_
      rintro e w1 ⟨g, rfl, eg, O1, b1⟩
      have p1g : w.heap.size < g := by have := ha.out.lt; have := eg.out; omega
      have gp2 : g < w1.heap.size := O1.out.lt
      have ha1 := ha.out.below b1
      have B1 := hb.out.trans (b1.mono hb.out.size)
      clear ha hb eg
      go_upto_region 14 with fail
      have b2 : Below w1.heap.size w1 (w1.alloc (.cells #[.int .i64 0, .int .i64 0, .int .i64 0, .int .i64 0, .int .i64 0, .int .i64 0, .int .i64 0, .int .i64 0] 30)) := (Below.refl _ _).alloc (Nat.le_refl _) _
      have k2 : Arr (w1.alloc (.cells #[.int .i64 0, .int .i64 0, .int .i64 0, .int .i64 0, .int .i64 0, .int .i64 0, .int .i64 0, .int .i64 0] 30)) w1.heap.size 30 (cnt fun _ => 0) := heap_alloc_new w1 _
      have K2 := Hid.mk_ k2
      have A2 := Hid.mk_ (ha1.below b2)
      have O2 := Hid.mk_ (O1.out.below b2)
      have B2 := Hid.mk_ (B1.trans (b2.mono B1.size))
      clear k2 ha1 O1 B1 b1 b2
      generalize (w1.alloc (.cells #[.int .i64 0, .int .i64 0, .int .i64 0, .int .i64 0, .int .i64 0, .int .i64 0, .int .i64 0, .int .i64 0] 30)) = w2 at *
      generalize w1.heap.size = p2 at *
      generalize hp1 : w.heap.size = p1 at p1g A2 ⊢
      have HP1 := Hid.mk_ hp1
      clear hp1
      have hinv0 := Hid.mk_ (Rnd.start l)
      go_wp2_with fail
      go_loopw [55] (fun v wr => ∃ (i : Nat) (A1 : Option Addr) (n1 c1 : Nat) (r : List Int) (ak : Nat → Nat), i ≤ n' ∧ v = .int .i64 (i : Int) ∧ Hid (Arr wr p1 30 (ins l)) ∧ Hid (Arr wr p2 30 (cnt ak)) ∧ Hid (Odr wr g me A1 n1 c1 r) ∧ Hid (∀ b off, A1 = some ⟨b, off, none⟩ → p2 < b) ∧ Hid (Below w.heap.size w wr) ∧ Hid (Rnd l i r ak)) (fun v _ => n' - (intOf v).toNat)
      case atStart => exact ⟨0, none, 0, 0, [], fun _ => 0, by omega, rfl, A2, K2, O2, Hid.mk_ (fun b off e => by cases e), B2, hinv0⟩
      case round =>
        clear A2 K2 O2 B2 hinv0
        obtain ⟨i, A1, n1, c1, r, ak, hi, rfl, ha, hk, ho, hA, hb, hinv⟩ := hrel
        by_cases hlt : i < n'
        · obtain ⟨dd, hdd⟩ : ∃ dd, ds[i]? = some dd := ⟨_, List.getElem?_eq_getElem (by have := hn'.out; omega)⟩
          obtain ⟨d0, b1, o1, rfl, cd⟩ := (hr'.out.keep fun b _ _ hlt => hb.out.block b hlt) i dd hdd
          have D0 := Hid.mk_ d0
          clear hdd d0
          go_wp2_with fail
          refine (next ho A j c xs (Hid.mk_ (hr.out.keep fun b _ _ hlt => hb.out.block b hlt)) hn (by omega) dd D0).mono ?_
          rintro e w3 ⟨he, A3, n3, c3, O3, hA3, W3⟩
          have gz := O3
          have hg1 : ¬ Its g A1 p1 := by
            rintro (h | ⟨off, h⟩)
            · omega
            · have := hA.out _ _ h; omega
          have hg2 : ¬ Its g A1 p2 := by
            rintro (h | ⟨off, h⟩)
            · omega
            · have := hA.out _ _ h; omega
          have A3' := Hid.mk_ (ha.out.keep (W3.block p1 ha.out.lt hg1))
          have K3 := Hid.mk_ (hk.out.keep (W3.block p2 hk.out.lt hg2))
          have hA3' : Hid (∀ b off, A3 = some ⟨b, off, none⟩ → p2 < b) := Hid.mk_ (fun b off e => by
            rcases hA3 b off e with ⟨off', e'⟩ | h
            · exact hA.out b off' e'
            · have := hk.out.lt; omega)
          have B3 := Hid.mk_ (hb.out.trans (W3.below hb.out.size (fun k hk => by
            have := HP1.out
            rcases hk with rfl | ⟨off, e⟩
            · omega
            · have := hA.out _ _ e; omega)))
          clear ha hk hA hb hA3 W3 hg1 hg2 ho gz
          by_cases hm0 : m = 0
          · have hlnil : l = [] := List.eq_nil_of_length_eq_zero (by rw [← hm.out, hm0])
            have hb0 : ((m : Int) == 0) = true := by rw [hm0]; rfl
            rw [nxt_nil _ _ _ _ (HL.out.trans hlnil)] at he O3
            obtain rfl := he
            have G := Hid.mk_ (show Rnd l (i + 1) r ak from by
              rcases hinv.out with ⟨h1, h⟩ | ⟨q, s, h⟩
              · exact .inl ⟨h1, h⟩
              · exact absurd h.lt (by rw [hlnil]; simp))
            clear hinv hlnil hm0
            go_wp2_with fail
            go_roundw
            case rel => exact ⟨i + 1, A3, n3, c3, r, ak, by omega, by go_num, A3', K3, O3, hA3', B3, G⟩
            case measure => simp [intOf]; omega
          · have hlne : l ≠ [] := fun e => hm0 (by rw [hm.out, e]; rfl)
            obtain ⟨q, s, hin⟩ := hinv.out.inv hlne
            obtain ⟨hqi, hrl⟩ := hin.small
            obtain ⟨y, ys, hp, hyl, hysl, hbmp, q', s', hin'⟩ := hin.step hone.out dd
            have en : nxt me xs r dd = (y, ys) := by unfold nxt; rw [HL.out, if_neg hlne, hp]; rfl
            rw [en] at he O3
            obtain rfl := he
            obtain ⟨a, a8, rfl⟩ := hrng.out y hyl
            have G := Hid.mk_ (show Rnd l (i + 1) ys (bump ak (a : Int)) from .inr ⟨q', s', hin'⟩)
            obtain ⟨hq, hs⟩ := hin.div
            rw [← hm.out] at hq hs hysl
            have hsm : s < m := by have := hin.lt; rw [hm.out]; exact this
            have HBMP := Hid.mk_ hbmp
            have HYL := Hid.mk_ hyl
            have hak : ak a ≤ 100 := by
              have := hin.ak a hyl
              split at this <;> omega
            have HYS := Hid.mk_ hysl
            clear hin hin' hinv hbmp hp en hyl hysl hlne
            have i0 : (0 : Int) ≤ (a : Int) := by omega
            have i1 : (a : Int) < 8 := by omega
            go_wp2_with fail
            refine Calls.cells (node (a : Int) true (Hid.mk_ (by simp; omega)) _) ?_
            intro w4 b4 _
            have A4 := Hid.mk_ (A3'.out.below b4)
            have K4 := Hid.mk_ (K3.out.below b4)
            have O4 := Hid.mk_ (O3.out.below b4)
            have B4 := Hid.mk_ (B3.out.trans (b4.mono B3.out.size))
            have ca := A4.out.cell a a8
            rw [show ins l a = .int .i64 1 by unfold ins; rw [if_pos HYL.out]] at ca
            have ck := K4.out.cell a a8
            have fk := K4.out.frozen a
            have ck' : w4.cell? ⟨p2, a, none⟩ = some (.int .i64 ((ak a : Nat) : Int)) := ck
            clear ck A3' K3 O3 B3 b4
            obtain ⟨v, ev⟩ : ∃ v, v = ak a := ⟨_, rfl⟩
            rw [← ev] at ck' hak
            have EV := Hid.mk_ ev
            clear ev
            go_upto_region 24 with fail
            have A5 := Hid.mk_ (A4.out.keep (Below.heap_setCell w4 ⟨p2, a, none⟩ (.int .i64 ((v : Int) + 1)) p1 (show p1 ≠ p2 by omega)))
            have K5 : Hid (Arr (w4.setCell ⟨p2, a, none⟩ (.int .i64 ((v : Int) + 1))) p2 30 (cnt (bump ak (a : Int)))) := Hid.mk_ (by
              have h := (K4.out.set a a8 (.int .i64 ((v : Int) + 1)))
              rw [EV.out] at h ⊢
              exact h.congr fun k _ => cnt_bump ak a k)
            have O5 := Hid.mk_ (O4.out.wr (Wr.set w4 p2 a (.int .i64 ((v : Int) + 1))) (by omega) (fun b off e h => by have := hA3'.out b off e; omega))
            have B5 := Hid.mk_ (B4.out.trans ((Below.refl w.heap.size w4).setCell (p := ⟨p2, a, none⟩) (by have := HP1.out; show w.heap.size ≤ p2; omega) (.int .i64 ((v : Int) + 1))))
            clear A4 K4 O4 B4 ca ck' fk
            generalize w4.setCell ⟨p2, a, none⟩ (.int .i64 ((v : Int) + 1)) = w5 at *
            go_wp2_with (refine wpList_load_row rfl 30 _ rfl p2 rfl 30 _ (0, 0) _ K5.out Try.underlying30 rfl (by kernel_rfl) ?_)
            go_loop [83] (fun v => ∃ k : Nat, k ≤ 8 ∧ v = .int .i64 (k : Int)) (fun v => 8 - (intOf v).toNat)
            case atStart => exact ⟨0, by omega, rfl⟩
            case round =>
              obtain ⟨k, hk, rfl⟩ := hrel
              by_cases hlt2 : k < 8
              · have hidx := idxI (cnt (bump ak (a : Int))) k hlt2
                have cp := A5.out.cell k hlt2
                have k0 : (0 : Int) ≤ (k : Int) := by omega
                have k1 : (k : Int) < 8 := by omega
                obtain ⟨u, eu⟩ : ∃ u, bump ak (a : Int) k = u := ⟨_, rfl⟩
                rw [show cnt (bump ak (a : Int)) k = .int .i64 (u : Int) by unfold cnt; rw [eu]] at hidx
                by_cases hkl : (k : Int) ∈ l
                · have hb2 := HBMP.out k hkl
                  rw [eu] at hb2
                  rw [show ins l k = .int .i64 1 by unfold ins; rw [if_pos hkl]] at cp
                  clear eu hkl
                  rcases hb2 with rfl | rfl
                  · go_wp2_with fail
                    exact ⟨⟨k + 1, by omega, by go_num⟩, by simp [intOf]; omega⟩
                  · go_wp2_with fail
                    exact ⟨⟨k + 1, by omega, by go_num⟩, by simp [intOf]; omega⟩
                · rw [show ins l k = .int .i64 0 by unfold ins; rw [if_neg hkl]] at cp
                  clear eu hkl
                  go_wp2_with fail
                  go_round
                  case rel => exact ⟨k + 1, by omega, by go_num⟩
                  case measure => simp [intOf]; omega
              · obtain rfl : k = 8 := by omega
                go_upto_region 30 with fail
                obtain ⟨z, ez⟩ : ∃ z, z = ys.length := ⟨_, rfl⟩
                have hcmp : (m : Int) - 1 - (s : Int) = (z : Int) := by have := HYS.out; omega
                have hs7 := HYS.out
                have hw1 : IntKind.i64.wrap ((m : Int) - 1) = (m : Int) - 1 := wrap_small _ (by omega) (by omega)
                have hw2 : IntKind.i64.wrap ((m : Int) - 1 - (s : Int)) = (z : Int) := by rw [hcmp]; exact wrap_small _ (by omega) (by omega)
                clear hcmp hs7
                have hz8 : ys.length ≤ 900 := by have := HYS.out; omega
                have EZ := Hid.mk_ ez
                clear ez HBMP EV hak hrl
                go_region_held3 (fun w' => True) (trivial) (first
                  | (go_at_call 19; refine (rest (by exact Hid.mk_ O5.out.drew) hz8).mono ?_; rintro e w8 ⟨A8, c8, he8, own8, b8⟩; rw [← EZ.out] at he8; subst he8)
                  | fail)
                have b5 : Below w5.heap.size w5 w8 := (Below.refl _ _).drew.trans b8
                have A6 := Hid.mk_ (A5.out.below b5)
                have K6 := Hid.mk_ (K5.out.below b5)
                have O6 := Hid.mk_ (O5.out.below b5)
                have B6 := Hid.mk_ (B5.out.trans (b5.mono B5.out.size))
                clear A5 K5 O5 B5 own8 b8 b5
                go_wp2_with fail
                exact ⟨⟨i + 1, A3, n3, c3, ys, bump ak (a : Int), by omega, by go_num, A6, K6, O6, hA3', B6, G⟩, by simp [intOf]; omega⟩
        · obtain rfl : i = n' := by omega
          go_wp2_with fail
          refine Calls.cells (awakeP _) ?_
          intro w9 b9 _
          go_wp2_with fail
          go_ret
          exact ⟨rfl, hb.out.trans (b9.mono hb.out.size)⟩
def sh1 : Sh := .int .i64
def sh2 : Sh := .int .u64
theorem walk (w : World) (me : Int) (hme : (Lit.int .i64 me).wf = true) (A : Option Addr) (n c : Nat) (h : RD w (.slice sh1) [.slice A n c]) (B : Option Addr) (n' c' : Nat) (h' : RD w (.slice sh2) [.slice B n' c']) :
    Calls Try.prog 6 #[.int .i64 me, .slice A n c, .slice B n' c'] w fun e w' => e = .returned (.bool true) ∧ Below w.heap.size w w' := by
  obtain ⟨xs, h1, h2, h3, h4, _⟩ := rd_ints h
  obtain ⟨ds, h1', h2', h3', h4'⟩ := rd_draws h'
  by_cases hb : 100 < n ∨ 80 < n'
  · exact big me A B n c n' c' w hb (by omega) (by omega)
  · exact small me A B n c n' c' xs ds w (Hid.mk_ h2) (Hid.mk_ h1.symm) (Hid.mk_ h2') (Hid.mk_ h1'.symm) (by omega) (by omega)
end Go.Proofs.Ythobimdnjggkfaa.WProbeRounds
