/- BeliefOne: the walk of the law. Conditions: the claims lie in memory. -/
import Derived.Test.YthobimdnjggkfaaBelM
import Derived.Test.YthobimdnjggkfaaBelQ
namespace Go.Proofs.Ythobimdnjggkfaa.WBeliefOne
open Go.RowKit Kit PBeliefJoins Bel
set_option linter.unusedVariables false
theorem own_form {w : World} {base : Nat} {e : TypeId} {size : Nat} {v : Value} {n : Nat} {xs : List Value} (h : w.ownsRow base e size v n xs) : ∃ A c, v = .slice A n c := by
  rcases h.2 with ⟨rfl, rfl⟩ | ⟨g, cap, cur, rfl, _⟩
  · exact ⟨_, _, rfl⟩
  · exact ⟨_, _, rfl⟩
theorem mod8 (n : Int) : ∃ m : Nat, m < 8 ∧ wrap64 ((IntKind.u64.wrap n).tmod 8) = (m : Int) := by
  have h : 0 ≤ IntKind.u64.wrap n := by rw [IntKind.wrap_u64]; omega
  generalize IntKind.u64.wrap n = t at h
  rw [Int.tmod_eq_emod_of_nonneg h]
  refine ⟨(t % 8).toNat, by omega, ?_⟩
  unfold wrap64
  omega
theorem cl_cells (c : Cl) : ∀ u ∈ [Value.int .i64 c.n, .int .i64 c.i, .int .i64 c.h], u.oneCell' = true := by
  intro u hu
  simp only [List.mem_cons, List.not_mem_nil, or_false] at hu
  rcases hu with rfl | rfl | rfl <;> rfl
theorem eq45 (x y z : Int) (w : World) : (Op.equalIn 10000 45 (.agg #[.int .i64 x, .int .i64 y, .int .i64 z]) (.agg #[.int .i64 x, .int .i64 y, .int .i64 z])).run Try.prog w = .ok true w := by
  simp [go_sem]
theorem new3_at (w : World) (n : Nat) (hn : n = w.heap.size) (a b c : Value) (t : TypeId) : ∀ j u, [a, b, c][j]? = some u → (w.alloc (.cells #[a, b, c] t)).cell? ((⟨n, 0, none⟩ : Addr).add j) = some u := by
  subst hn
  exact new3 w a b c t
theorem of_at (p q : Nat → Int) (g m : Nat) (hm : m < 8) (x y : Int) (hx : p m = x) (hy : q m = y) (w : World) (hv : Vw w g p q) :
    Calls Try.prog 24 #[.pointer (some ⟨g, 0, none⟩), .int .i64 (m : Int)] w fun e w' => e = .returned (.agg #[.int .i64 (m : Int), .int .i64 x, .int .i64 y]) ∧ Below w.heap.size w w' := by
  have h := of0 p q g m w hv
  have e1 : onN (m : Int) = m := by unfold onN; rw [if_pos (by omega)]
  have e2 : on p (m : Int) = x := by unfold on; rw [if_pos (by omega), Int.toNat_natCast, hx]
  have e3 : on q (m : Int) = y := by unfold on; rw [if_pos (by omega), Int.toNat_natCast, hy]
  rwa [e1, e2, e3] at h
set_option maxHeartbeats 2000000 in
theorem long (A : Option Addr) (k c : Nat) (n : Int) (w : World) (hm : 80 < k) (hm' : k ≤ 9223372036854775807) :
    Calls Try.prog 8 #[.slice A k c, .int .i64 n] w fun e w' => e = .returned (.bool true) ∧ Below w.heap.size w w' := by
  go_enter Try.func8, Try.ntmps8
  go_wp2_with (go_at_call 22; refine (awakeB _).mono ?_; rintro e w' ⟨rfl, hb⟩)
  go_ret
  exact ⟨rfl, hb⟩
set_option maxHeartbeats 4000000 in
theorem short (A : Option Addr) (ls : List Cl) (c : Nat) (n : Int) (w : World) (hl : Hid (ClAt w A ls)) (hm : ls.length ≤ 80) :
    Calls Try.prog 8 #[.slice A ls.length c, .int .i64 n] w fun e w' => e = .returned (.bool true) ∧ Below w.heap.size w w' := by
  obtain ⟨i0, hi0, hz0, hz1, hz2⟩ := info_parts info45
  obtain ⟨m, hm8, em⟩ := mod8 n
  have EM := Hid.mk_ em
  clear em
  go_enter Try.func8, Try.ntmps8
  go_upto_region 4 with fail
  rw [EM.out]
  go_wp2_with fail
  go_loopw [5, 20] (fun v i wr => ∃ k : Nat, k ≤ ls.length ∧ i = .int .i64 (k : Int) ∧ wr.ownsRow w.heap.size 45 3 v ((ls.take k).filter (isOf m)).length (cellsC ((ls.take k).filter (isOf m))) ∧ Below w.heap.size w wr) (fun _ i _ => ls.length - (intOf i).toNat)
  case atStart => exact ⟨0, by omega, rfl, World.ownsRow_nil _ _ _ _, Below.refl _ _⟩
  case round =>
    obtain ⟨k, hk, rfl, hown0, hbl⟩ := hrel
    have hown := Hid.mk_ hown0
    clear hown0
    have hfl : ((ls.take k).filter (isOf m)).length ≤ k := Nat.le_trans (List.length_filter_le _ _) (List.length_take_le _ _)
    by_cases hlt : k < ls.length
    · obtain ⟨b, off, rfl, hbw, hc0, hc1, hc2⟩ := hl.out k ls[k] (List.getElem?_eq_getElem hlt)
      have hk0 := (hbl.cell (p := ⟨b, off + k * 3, none⟩) hbw).trans hc0
      have hk1 := (hbl.cell (p := ⟨b, off + k * 3 + 1, none⟩) hbw).trans hc1
      have hk2 := (hbl.cell (p := ⟨b, off + k * 3 + 2, none⟩) hbw).trans hc2
      have hbr : b < wr.heap.size := Nat.lt_of_lt_of_le hbw hbl.size
      clear hc0 hc1 hc2
      have ts := take_snoc (List.getElem?_eq_getElem hlt)
      have TS := Hid.mk_ ts
      clear ts
      cases hq : (ls[k].n == (m : Int)) with
      | true =>
        have hsz := hbl.size
        go_wp2_with (at_builtin; refine wpList_append_own _ rfl _ _ 43 rfl w.heap.size 45 i0 _ 3 24 Try.underlying43 hi0 hz0 hz1 hz2 rfl (by decide) _ _ _ rfl ((hown.out.alloc _).alloc _) ⟨wr.heap.size + 1, 0, none⟩ 1 1 [Value.int .i64 ls[k].n, .int .i64 ls[k].i, .int .i64 ls[k].h] rfl rfl (new3_at (wr.alloc _) _ (by simp) _ _ _ _) (cl_cells _) (by unfold maxLen; omega) (by omega) (by simp; omega) ?_; intro v' w3 hown3 hg3 _)
        refine ⟨⟨k + 1, by omega, by go_num, ?_, ?_⟩, by simp [intOf]; omega⟩
        · rw [TS.out, List.filter_append, List.filter_cons_of_pos (show isOf m ls[k] = true from hq), List.filter_nil, List.length_append, cells_snoc]
          exact hown3
        · exact ((hbl.alloc hbl.size _).alloc (by simp; omega) _).grown hg3 (by simp; omega) (fun j hj => (hown.out.lt j hj).1)
      | false =>
        go_wp2_with fail
        refine ⟨⟨k + 1, by omega, by go_num, ?_, ?_⟩, by simp [intOf]; omega⟩
        · rw [TS.out, List.filter_append, List.filter_cons_of_neg (show ¬ isOf m ls[k] = true by unfold isOf; rw [hq]; simp), List.filter_nil, List.append_nil]
          exact hown.out.alloc _
        · exact hbl.alloc hbl.size _
    · obtain rfl : k = ls.length := by omega
      have hown1 := hown.out
      rw [List.take_length] at hown1
      rw [List.take_length] at hfl
      clear hown
      obtain ⟨A', c', rfl⟩ := own_form hown1
      obtain ⟨_, hcl⟩ := ClAt.of_own hown1
      have HC := Hid.mk_ hcl
      have HL := Hid.mk_ (hl.out.keep hbl)
      clear hown1 hcl
      have hs := own_same m ls s0 s0 rfl rfl
      have ha := own_alone m ls s0 (fun _ _ => rfl)
      go_wp2_with fail
      refine (heard0 A ls c _ HL (by unfold maxLen; omega)).mono ?_
      rintro e w2 ⟨g, rfl, hg, hv2, hb2⟩
      rw [List.take_of_length_le (by omega)] at hv2
      have HV2 := Hid.mk_ hv2
      clear hv2
      go_wp2_with fail
      refine (heard0 A' (ls.filter (isOf m)) c' _ (HC.out.keep hb2) (by unfold maxLen; omega)).mono ?_
      rintro e w3 ⟨g', rfl, hg', hv3, hb3⟩
      rw [List.take_of_length_le (by omega)] at hv3
      have HV3 := Hid.mk_ hv3
      clear hv3
      have HV23 := Hid.mk_ (HV2.out.below hb3 HV2.out.lt)
      have b3 := hbl.trans ((hb2.mono hbl.size).trans (hb3.mono (Nat.le_trans hbl.size hb2.size)))
      have hsz := hbl.size
      have sz2 := hb2.size
      have sz3 := hb3.size
      go_wp2_with fail
      refine Calls.cells (of_at _ _ g m hm8 _ _ hs.1 hs.2 _ HV23.out) ?_
      intro w4 hb4 hc4
      go_wp2_with fail
      refine Calls.cells (of_at _ _ g' m hm8 _ _ rfl rfl _ (HV3.out.below hb4 HV3.out.lt)) ?_
      intro w5 hb5 hc5
      have b5 := (b3.trans (hb4.mono b3.size))
      have b5' := b5.trans (hb5.mono b5.size)
      have hv5 := (HV3.out.below hb4 HV3.out.lt).below hb5 ((HV3.out.below hb4 HV3.out.lt).lt)
      go_wp2_with fail
      refine (all0 _ _ g' _ (Hid.mk_ hv5)).mono ?_
      rintro e w6 ⟨v, rfl, h6, hb6⟩
      obtain ⟨A6, c6, rfl⟩ := own_form h6
      clear h6
      have hone := (cnt_one (fun k => !((hears s0 (ls.filter (isOf m))).q k == 0)) m (fun k hk => by rw [ha k hk]; rfl) 8).1
      generalize cntC (fun k => !((hears s0 (ls.filter (isOf m))).q k == 0)) 8 = z at hone
      have b6 := b5'.trans (hb6.mono b5'.size)
      go_wp2_with fail
      refine (new0 _).mono ?_
      rintro e w7 ⟨g2, rfl, hg2, hv7, hb7⟩
      have b7 := b6.trans (hb7.mono b6.size)
      go_wp2_with fail
      refine Calls.cells (of_at _ _ g2 m hm8 0 0 rfl rfl _ hv7) ?_
      intro w8 hb8 hc8
      have b8 := b7.trans (hb8.mono b7.size)
      go_wp2_with fail
      refine Calls.cells (awakeB _) ?_
      intro w9 hb9 hc9
      go_wp2_with fail
      go_ret
      exact ⟨rfl, b8.trans (hb9.mono b8.size)⟩
def sh0 : Sh := shC
theorem walk (w : World) (A : Option Addr) (n c : Nat) (h : RD w (.slice sh0) [.slice A n c]) (b : Int) (hb : (Lit.int .i64 b).wf = true) : Calls Try.prog 8 #[.slice A n c, .int .i64 b] w fun e w' => e = .returned (.bool true) ∧ Below w.heap.size w w' := by
  obtain ⟨ls, rfl, hl, hn, hc⟩ := rd_claims h
  by_cases hm : ls.length ≤ 80
  · exact short A ls c b w hl hm
  · exact long A ls.length c b w (by omega) (by unfold maxLen at hc; omega)
end Go.Proofs.Ythobimdnjggkfaa.WBeliefOne
