/- Chapter 3: words for the laws: numbers cut to a bound, one claim alone. Plain. -/
import Derived.Test.YtoikadgfbjjfiaaRpM
namespace Go.Proofs.Ytoikadgfbjjfiaa.Rum
open Go.RowKit Kit Go.Shelf Hth Tri3
set_option linter.unusedVariables false
theorem modm (n m : Int) (hm : 0 < m) (hb : m ≤ 4611686018427387904) : ∃ y : Int, 0 ≤ y ∧ y < m ∧ wrap64 ((IntKind.u64.wrap n).tmod m) = y := by
  have h : 0 ≤ IntKind.u64.wrap n := by rw [IntKind.wrap_u64]; omega
  generalize IntKind.u64.wrap n = t at h
  rw [Int.tmod_eq_emod_of_nonneg h]
  have h1 := Int.emod_nonneg t (b := m) (by omega)
  have h2 := Int.emod_lt_of_pos t hm
  refine ⟨t % m, h1, h2, ?_⟩
  generalize t % m = r at h1 h2
  unfold wrap64
  omega
theorem ofn_id {o : Int} (h : 1 ≤ o ∧ o ≤ 20) : o = ofn o := by unfold ofn; rw [if_neg (by omega), if_neg (by omega)]
theorem cmp_self (i h : Int) : cmpC i h i h = 0 := by unfold cmpC; repeat' split
                                                      all_goals omega
/-- A claim alone, told k times. -/
def one (c : Cl) (k : Int) : Tld := ⟨c.n, c.i, c.h, k⟩
theorem putB_nil (c : Cl) : putB c [] = good c := by unfold putB qof; simp
theorem putQ_no {c : Cl} {L : List Tld} (h : putB c L = false) : putQ c L = L := by unfold putQ; rw [h]; rfl
theorem putQ_nil {c : Cl} (h : good c = true) : putQ c [] = [one c 0] := by unfold putQ; rw [putB_nil, h]; rfl
theorem putB_one (c : Cl) (k : Int) : putB c [one c k] = false := by
  unfold putB qof
  simp [one, cmp_self]
theorem qof_one (c : Cl) (k : Int) : qof c.n [one c k] = some (one c k) := by unfold qof; simp [one]
theorem took_one_yes {c : Cl} {k o : Int} (h : k + 1 < o) : tookQ o 1 [one c k] = [one c (k + 1)] := by
  unfold tookQ again
  simp [one, h, putAll, ins, inc1]
theorem took_one_no {c : Cl} {k o : Int} (h : ¬ k + 1 < o) : tookQ o 1 [one c k] = [] := by
  unfold tookQ again
  simp [one, h, putAll]
theorem Box3.wr {w w' : World} {q : Nat} {x y z : Int} {S : Nat → Prop} (h : Box3 w q x y z) (r : Wr w w' S) (hn : ¬ S q) : Box3 w' q x y z := by
  have hf : ∀ o, w'.frozen? ⟨q, o, none⟩ = w.frozen? ⟨q, o, none⟩ := fun o => r.frozen h.lt hn
  exact ⟨r.cell h.c0 hn, r.cell h.c1 hn, r.cell h.c2 hn, (hf 0).trans h.f0, (hf 1).trans h.f1, (hf 2).trans h.f2⟩
theorem Box3.set0 {w : World} {q : Nat} {x y z : Int} (h : Box3 w q x y z) (n : Int) : Box3 (w.setCell ⟨q, 0, none⟩ (.int .i64 n)) q n y z := by
  refine ⟨World.cell?_setCell_same w ⟨q, 0, none⟩ _ h.c0, (World.cell?_setCell_other _ _ _ _ (by simp)).trans h.c1, (World.cell?_setCell_other _ _ _ _ (by simp)).trans h.c2, ?_, ?_, ?_⟩
  · rw [World.frozen?_setCell]; exact h.f0
  · rw [World.frozen?_setCell]; exact h.f1
  · rw [World.frozen?_setCell]; exact h.f2
def eq3 (a b c x y z : Int) : Bool := a == x && (b == y && c == z)
theorem equalIn53 (d : Nat) (a b c x y z : Int) (w : World) : (Op.equalIn (d + 2) 53 (.agg #[.int .i64 a, .int .i64 b, .int .i64 c]) (.agg #[.int .i64 x, .int .i64 y, .int .i64 z])).run Try.prog w = .ok (eq3 a b c x y z) w := by
  rw [Op.equalIn]
  simp only [Sem.run_bind, run_underlying Try.underlying53, Result.andThen_ok]
  simp [go_sem]
  unfold eq3
  repeat' split
  all_goals simp_all
theorem eql53 (a b c x y z : Int) (w : World) : (binOp .eql 53 (.agg #[.int .i64 a, .int .i64 b, .int .i64 c]) (.agg #[.int .i64 x, .int .i64 y, .int .i64 z])).run Try.prog w = .ok (.bool (eq3 a b c x y z)) w := by
  rw [run_eql_struct, equalIn53 9998]; rfl
theorem neq53 (a b c x y z : Int) (w : World) : (binOp .neq 53 (.agg #[.int .i64 a, .int .i64 b, .int .i64 c]) (.agg #[.int .i64 x, .int .i64 y, .int .i64 z])).run Try.prog w = .ok (.bool (!eq3 a b c x y z)) w := by
  rw [run_neq_struct, equalIn53 9998]; rfl
theorem eq3_self (a b c : Int) : eq3 a b c a b c = true := by simp [eq3]
theorem neq53_self (a b c : Int) (w : World) : (binOp .neq 53 (.agg #[.int .i64 a, .int .i64 b, .int .i64 c]) (.agg #[.int .i64 a, .int .i64 b, .int .i64 c])).run Try.prog w = .ok (.bool false) w := by
  rw [neq53, eq3_self]; rfl
theorem eql53_self (a b c : Int) (w : World) : (binOp .eql 53 (.agg #[.int .i64 a, .int .i64 b, .int .i64 c]) (.agg #[.int .i64 a, .int .i64 b, .int .i64 c])).run Try.prog w = .ok (.bool true) w := by
  rw [eql53, eq3_self]
end Go.Proofs.Ytoikadgfbjjfiaa.Rum
