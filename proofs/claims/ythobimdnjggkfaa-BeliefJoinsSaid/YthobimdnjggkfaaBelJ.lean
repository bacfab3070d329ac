/- Chapter 2: a view that hears all of another: the contract. Conditions: both views lie in blocks of their own. -/
import Derived.Test.YthobimdnjggkfaaBelM
import Derived.Test.YthobimdnjggkfaaBelK
import Derived.Maps.AppendAt
import Derived.Lib.BufferOwn
namespace Go.Proofs.Ythobimdnjggkfaa.Bel
open Go.RowKit Kit PBeliefJoins
set_option linter.unusedVariables false
theorem own_form {w : World} {base : Nat} {e : TypeId} {size : Nat} {v : Value} {n : Nat} {xs : List Value} (h : w.ownsRow base e size v n xs) : ∃ A c, v = .slice A n c := by
  rcases h.2 with ⟨rfl, rfl⟩ | ⟨g, cap, cur, rfl, _⟩
  · exact ⟨_, _, rfl⟩
  · exact ⟨_, _, rfl⟩
theorem of_at (p q : Nat → Int) (g m : Nat) (hm : m < 8) (x y : Int) (hx : p m = x) (hy : q m = y) (w : World) (hv : Vw w g p q) :
    Calls Try.prog 24 #[.pointer (some ⟨g, 0, none⟩), .int .i64 (m : Int)] w fun e w' => e = .returned (.agg #[.int .i64 (m : Int), .int .i64 x, .int .i64 y]) ∧ Below w.heap.size w w' := by
  have h := of0 p q g m w hv
  have e1 : onN (m : Int) = m := by unfold onN; rw [if_pos (by omega)]
  have e2 : on p (m : Int) = x := by unfold on; rw [if_pos (by omega), Int.toNat_natCast, hx]
  have e3 : on q (m : Int) = y := by unfold on; rw [if_pos (by omega), Int.toNat_natCast, hy]
  rwa [e1, e2, e3] at h
def Joined (w : World) (g : Nat) (s : St) (l : List Cl) (e : Ending) (w' : World) : Prop :=
  e = .returned (.int .i64 (count s l : Int)) ∧ Vw w' g (hears s l).p (hears s l).q ∧ w.grownBy w' (some g)
/-- How many were heard, from behind. -/
theorem count_snoc : ∀ (l : List Cl) (s : St) (c : Cl), count s (l ++ [c]) = count s l + (if hb (hears s l) c then 1 else 0)
  | [], s, c => by show count s [c] = 0 + (if hb s c then 1 else 0); unfold count count; cases hb s c <;> rfl
  | d :: l, s, c => by
    have := count_snoc l (hear1 s d) c
    show (if hb s d then 1 else 0) + count (hear1 s d) (l ++ [c]) = (if hb s d then 1 else 0) + count (hear1 s d) l + _
    rw [this, Nat.add_assoc]; rfl
theorem count_yes {l : List Cl} {s : St} {c : Cl} (h : hb (hears s l) c = true) : count s (l ++ [c]) = count s l + 1 := by rw [count_snoc, h]; rfl
theorem count_no {l : List Cl} {s : St} {c : Cl} (h : hb (hears s l) c = false) : count s (l ++ [c]) = count s l := by rw [count_snoc, h]; rfl
theorem vw_far {w w' : World} {g h : Nat} {p q : Nat → Int} (hv : Vw w h p q) (hg : w.grownBy w' (some g)) (hne : h ≠ g) : Vw w' h p q := (hg.block h hv.lt (fun e => hne (by injection e))).trans hv
theorem own_new {w : World} {base : Nat} {e : TypeId} {size : Nat} {b off : Nat} {n c : Nat} {xs : List Value} (h : w.ownsRow base e size (.slice (some ⟨b, off, none⟩) n c) n xs) : base ≤ b := by
  rcases h.2 with ⟨hv, h0⟩ | ⟨g, cap, cur, hv, hb, hh, hnc, hm, hcur, ht⟩
  · cases hv
  · injection hv with h1
    injection h1 with h1
    injection h1 with h1
    omega
def arm (n i h : Int) : Value := .agg #[.int .i64 n, .int .i64 i, .int .i64 h]
theorem hear_at (s : St) (c : Cl) (g : Nat) (b : Bool) (hh : hb s c = b) (w : World) (hv : Vw w g s.p s.q) :
    Calls Try.prog 33 #[.pointer (some ⟨g, 0, none⟩), .agg #[.int .i64 c.n, .int .i64 c.i, .int .i64 c.h]] w fun e w' => e = .returned (.bool b) ∧ Vw w' g (hear1 s c).p (hear1 s c).q ∧ w.grownBy w' (some g) := by
  have h := hear0 s.p s.q g c.n c.i c.h w hv
  refine h.mono ?_
  rintro e w' ⟨h1, h2, h3⟩
  refine ⟨h1.trans ?_, h2, h3⟩
  rw [show hearB s.p s.q c.n c.i c.h = b from hh]
set_option maxHeartbeats 2000000 in
theorem join0 (s : St) (p q : Nat → Int) (g h : Nat) (w : World) (hv : Hid (Vw w g s.p s.q)) (hw : Hid (Vw w h p q)) (ls : List Cl) (hls : Hid (lsC ⟨p, q⟩ 8 = ls)) :
    Calls Try.prog 31 #[.pointer (some ⟨g, 0, none⟩), .pointer (some ⟨h, 0, none⟩)] w (Joined w g s ls) := by
  go_enter Try.func31, Try.ntmps31
  go_wp2_with fail
  refine (all0 p q h w hw).mono ?_
  rintro e w1 ⟨v, rfl, h1, hb1⟩
  have e1 := ls_len ⟨p, q⟩ 8
  have e2 := cells_ls ⟨p, q⟩ 8
  rw [← e1, ← e2, hls.out] at h1
  rw [hls.out] at e1
  have hlen : ls.length ≤ 8 := by rw [e1]; exact cnt_le _ 8
  clear e1 e2
  obtain ⟨A, c, rfl⟩ := own_form h1
  have HL := Hid.mk_ (ClAt.of_own h1).2
  have HO := Hid.mk_ h1
  clear h1
  have HV1 := Hid.mk_ (hv.out.below hb1 hv.out.lt)
  have hg1 := hv.out.lt
  have hgr1 := grown_of_below (row := some g) hb1
  go_wp2_with fail
  go_loopw [5, 14] (fun n i wr => ∃ k : Nat, k ≤ ls.length ∧ n = .int .i64 (count s (ls.take k) : Int) ∧ i = .int .i64 (k : Int) ∧ Vw wr g (hears s (ls.take k)).p (hears s (ls.take k)).q ∧ w1.grownBy wr (some g)) (fun _ i _ => ls.length - (intOf i).toNat)
  case atStart => exact ⟨0, by omega, rfl, rfl, HV1.out, World.grownBy.refl _ _⟩
  case round =>
    obtain ⟨k, hk, rfl, rfl, hv0, hgr⟩ := hrel
    have HV := Hid.mk_ hv0
    clear hv0
    by_cases hlt : k < ls.length
    · obtain ⟨b, off, rfl, hbw, hc0, hc1, hc2⟩ := HL.out k ls[k] (List.getElem?_eq_getElem hlt)
      have hbg : w.heap.size ≤ b := own_new HO.out
      have hne : some b ≠ some g := fun e => by injection e; omega
      have hk0 := (hgr.cell_far ⟨b, off + k * 3, none⟩ hbw hne).trans hc0
      have hk1 := (hgr.cell_far ⟨b, off + k * 3 + 1, none⟩ hbw hne).trans hc1
      have hk2 := (hgr.cell_far ⟨b, off + k * 3 + 2, none⟩ hbw hne).trans hc2
      have hbr : b < wr.heap.size := Nat.lt_of_lt_of_le hbw hgr.size
      clear hc0 hc1 hc2
      have hcl : count s (ls.take k) ≤ k := Nat.le_trans (count_le _ _) (List.length_take_le _ _)
      have TS := Hid.mk_ (take_snoc (List.getElem?_eq_getElem hlt))
      cases hh : hb (hears s (ls.take k)) ls[k] with
      | true =>
        have HH := Hid.mk_ hh
        clear hh
        go_wp2_with fail
        refine (hear_at _ ls[k] g true HH.out _ (HV.out.below ((Below.refl _ _).alloc (Nat.le_refl _) _) HV.out.lt)).mono ?_
        rintro e w2 ⟨rfl, hv2, hg2⟩
        have HV2 := Hid.mk_ hv2
        clear hv2
        go_wp2_with fail
        refine ⟨⟨k + 1, by omega, ?_, by go_num, ?_, ?_⟩, by simp [intOf]; omega⟩
        · rw [TS.out, count_yes HH.out]; go_num
        · rw [TS.out, hears_snoc]; exact HV2.out
        · exact (hgr.trans (World.grownBy_alloc _ _ _)).trans hg2
      | false =>
        have HH := Hid.mk_ hh
        clear hh
        go_wp2_with fail
        refine (hear_at _ ls[k] g false HH.out _ (HV.out.below ((Below.refl _ _).alloc (Nat.le_refl _) _) HV.out.lt)).mono ?_
        rintro e w2 ⟨rfl, hv2, hg2⟩
        have HV2 := Hid.mk_ hv2
        clear hv2
        go_wp2_with fail
        refine ⟨⟨k + 1, by omega, ?_, by go_num, ?_, ?_⟩, by simp [intOf]; omega⟩
        · rw [TS.out, count_no HH.out]
        · rw [TS.out, hears_snoc]; exact HV2.out
        · exact (hgr.trans (World.grownBy_alloc _ _ _)).trans hg2
    · obtain rfl : k = ls.length := by omega
      go_wp2_with fail
      go_ret
      have hv' := HV.out
      rw [List.take_length] at hv'
      refine ⟨?_, hv', hgr1.trans hgr⟩
      rw [List.take_length]; rfl
end Go.Proofs.Ythobimdnjggkfaa.Bel
