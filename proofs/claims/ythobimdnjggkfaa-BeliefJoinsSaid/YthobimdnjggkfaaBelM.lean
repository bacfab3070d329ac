/- Chapter 2's laws: a view that has heard a row of claims; a copy. The contracts. Conditions: the claims lie in memory; a view lies in a block of its own. -/
import Derived.Test.YthobimdnjggkfaaBelP
import Derived.Deep.WholeRow
namespace Go.Proofs.Ythobimdnjggkfaa.Bel
open Go.RowKit Kit PBeliefJoins
set_option linter.unusedVariables false
def HeardAll (w : World) (s : St) (e : Ending) (w' : World) : Prop := ∃ g, e = .returned (.pointer (some ⟨g, 0, none⟩)) ∧ w.heap.size ≤ g ∧ Vw w' g s.p s.q ∧ Below w.heap.size w w'
theorem below_row {w0 w w' : World} {B : Nat} {g : Nat} (h : Below B w0 w) (hg : w.grownBy w' (some g)) (hB : B ≤ w.heap.size) (hgB : B ≤ g) : Below B w0 w' :=
  h.grown hg hB (fun k hk => by injection hk with hk; omega)
set_option maxHeartbeats 2000000 in
theorem heard0 (A : Option Addr) (ls : List Cl) (c : Nat) (w : World) (hl : Hid (ClAt w A ls)) (hm : ls.length ≤ maxLen) :
    Calls Try.prog 23 #[.slice A ls.length c] w (HeardAll w (hears s0 (ls.take 100))) := by
  unfold maxLen at hm
  go_enter Try.func23, Try.ntmps23
  go_wp2_with fail
  refine (new0 _).mono ?_
  rintro e w1 ⟨g, rfl, hg, hv0, hb1⟩
  have HV0 := Hid.mk_ hv0
  clear hv0
  go_wp2_with fail
  go_loopw [9] (fun i wr => ∃ k : Nat, k ≤ ls.length ∧ i = .int .i64 (k : Int) ∧ Vw wr g (hears s0 ((ls.take 100).take k)).p (hears s0 ((ls.take 100).take k)).q ∧ Below w.heap.size w wr) (fun i _ => ls.length - (intOf i).toNat)
  case atStart => exact ⟨0, by omega, rfl, HV0.out, hb1⟩
  case round =>
    obtain ⟨k, hk, rfl, hv0, hbl⟩ := hrel
    have HV := Hid.mk_ hv0
    clear hv0
    by_cases hlt : k < ls.length
    · obtain ⟨b, off, rfl, hbw, hc0, hc1, hc2⟩ := hl.out k ls[k] (List.getElem?_eq_getElem hlt)
      have hk0 := (hbl.cell (p := ⟨b, off + k * 3, none⟩) hbw).trans hc0
      have hk1 := (hbl.cell (p := ⟨b, off + k * 3 + 1, none⟩) hbw).trans hc1
      have hk2 := (hbl.cell (p := ⟨b, off + k * 3 + 2, none⟩) hbw).trans hc2
      have hbr : b < wr.heap.size := Nat.lt_of_lt_of_le hbw hbl.size
      clear hc0 hc1 hc2
      by_cases h100 : k < 100
      · go_wp2_with fail
        refine (hear0 _ _ g _ _ _ _ (HV.out.below ((Below.refl _ _).alloc (Nat.le_refl _) _) HV.out.lt)).mono ?_
        rintro e w2 ⟨rfl, hv2, hg2⟩
        have HV2 := Hid.mk_ hv2
        clear hv2
        go_wp2_with fail
        refine ⟨⟨k + 1, by omega, by go_num, ?_, ?_⟩, by simp [intOf]; omega⟩
        · have e1 : (ls.take 100)[k]? = some ls[k] := by rw [List.getElem?_take_of_lt h100]; exact List.getElem?_eq_getElem hlt
          rw [take_snoc e1, hears_snoc]
          exact HV2.out
        · exact below_row (hbl.alloc hbl.size _) hg2 (by have := hbl.size; simp; omega) hg
      · go_wp2_with fail
        refine ⟨⟨k + 1, by omega, by go_num, ?_, ?_⟩, by simp [intOf]; omega⟩
        · have e1 : (ls.take 100).take (k + 1) = (ls.take 100).take k := by
            rw [List.take_take, List.take_take, Nat.min_eq_right (by omega), Nat.min_eq_right (by omega)]
          rw [e1]
          exact HV.out.below ((Below.refl _ _).alloc (Nat.le_refl _) _) HV.out.lt
        · exact hbl.alloc hbl.size _
    · obtain rfl : k = ls.length := by omega
      go_wp2_with fail
      go_ret
      refine ⟨g, rfl, hg, ?_, hbl⟩
      have := HV.out
      rwa [List.take_of_length_le (by simp; omega)] at this
def Copied (w : World) (p q : Nat → Int) (e : Ending) (w' : World) : Prop := ∃ g, e = .returned (.pointer (some ⟨g, 0, none⟩)) ∧ w.heap.size ≤ g ∧ Vw w' g p q ∧ Below w.heap.size w w'
theorem copyA (cs : Array Value) (hsz : cs.size = 24) (h1 : Hid (cs.all (·.oneCell') = true)) (hcs : Hid ((Try.prog.info? 71).map (·.size) = some cs.size)) (g : Nat) (w : World) (hv : Hid (w.heap[g]? = some (.cells cs 71 (0, 0)))) :
    Calls Try.prog 30 #[.pointer (some ⟨g, 0, none⟩)] w fun e w' => e = .returned (.pointer (some ⟨w.heap.size, 0, none⟩)) ∧ w.alloc (.cells cs 71 (0, 0)) = w' := by
  have HS := Hid.mk_ hsz
  clear hsz
  go_enter Try.func30, Try.ntmps30
  go_wp2_with (first | (refine wpList_load_row rfl 71 _ rfl g rfl 71 cs (0, 0) _ hv.out Try.underlying71 rfl hcs.out ?_) | (refine wpList_store_row rfl 71 _ _ rfl w.heap.size cs rfl rfl 71 _ (heap_alloc_new w _) hcs.out (by rw [HS.out]; rfl) h1.out ?_; rw [World.setRow_alloc_new]))
  go_ret
  exact ⟨rfl, rfl⟩
theorem vc71 (p q : Nat → Int) : (Try.prog.info? 71).map (·.size) = some (vc p q).size := by
  have h : (Try.prog.info? 71).map (·.size) = some 24 := by kernel_rfl
  rw [h]; rfl
theorem copy0 (p q : Nat → Int) (g : Nat) (w : World) (hv : Vw w g p q) : Calls Try.prog 30 #[.pointer (some ⟨g, 0, none⟩)] w (Copied w p q) :=
  (copyA (vc p q) rfl (show (vc p q).all (·.oneCell') = true by simp [Value.oneCell']) (vc71 p q) g w hv).mono fun e w' ⟨he, hw⟩ => ⟨w.heap.size, he, Nat.le_refl _, by rw [← hw]; exact heap_new w _, by rw [← hw]; exact (Below.refl _ _).alloc (Nat.le_refl _) _⟩
theorem fld1 (x y z : Value) (w : World) : (Instr.field 45 (.agg #[x, y, z]) 1).run Try.prog w = .ok y w := by kernel_rfl
attribute [local go_sem] fld1
set_option maxHeartbeats 1000000 in
theorem awakeB (w : World) : Calls Try.prog 22 #[] w fun e w' => e = .returned (.bool true) ∧ Below w.heap.size w w' := by
  go_enter Try.func22, Try.ntmps22
  go_wp2_with fail
  refine (new0 _).mono ?_
  rintro e w1 ⟨g, rfl, hg, hv0, hb1⟩
  go_wp2_with fail
  refine (hear0 _ _ g _ _ _ _ hv0).mono ?_
  rintro e w2 ⟨he2, hv2, hg2⟩
  have hb2 := below_row hb1 hg2 hb1.size hg
  clear hv0 hg2 hb1
  have x2 : hearB z8 z8 3 1 1 = true := by decide
  rw [x2] at he2 hv2
  subst he2
  go_wp2_with fail
  refine (hear0 _ _ g _ _ _ _ hv2).mono ?_
  rintro e w3 ⟨he3, hv3, hg3⟩
  have hb3 := below_row hb2 hg3 hb2.size hg
  clear hv2 hg3 hb2
  have x3 : hearB (upd z8 3 1 true) (upd z8 3 1 true) 3 0 2 = false := by decide
  rw [x3] at he3 hv3
  subst he3
  go_wp2_with fail
  have x4 : on (upd (upd z8 3 1 true) 3 0 false) 3 = 1 := by decide
  have c4 := of0 _ _ g 3 _ hv3
  rw [x4] at c4
  refine Calls.cells c4 ?_
  intro w4 hb4 hc4
  clear c4 x2 x3 x4
  go_wp2_with fail
  go_ret
  exact ⟨rfl, hb3.trans (hb4.mono hb3.size)⟩
end Go.Proofs.Ythobimdnjggkfaa.Bel
