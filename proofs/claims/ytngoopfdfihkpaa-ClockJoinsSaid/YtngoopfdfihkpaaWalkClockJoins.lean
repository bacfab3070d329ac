/- ClockJoins: the walk put together, and the plain facts: join is a least upper bound. No condition. -/
import Derived.Test.YtngoopfdfihkpaaCaseClockJoins
namespace Go.Proofs.Ytngoopfdfihkpaa.WClockJoins
open Go.RowKit Kit Clk
theorem mx_comm (a b : Int) : mx b a = mx a b := by
  unfold mx
  repeat' split
  all_goals omega
theorem mx_assoc (a b c : Int) : mx a (mx b c) = mx (mx a b) c := by
  unfold mx
  repeat' split
  all_goals omega
theorem mx_self (a : Int) : mx a a = a := by unfold mx; simp
theorem le_mx (a b : Int) : a ≤ mx a b := by unfold mx; split <;> omega
theorem le_mx' (a b : Int) : b ≤ mx a b := by unfold mx; split <;> omega
theorem mx_le {a b c : Int} (h : a ≤ c) (k : b ≤ c) : mx a b ≤ c := by unfold mx; split <;> omega
theorem mx_le_iff (j a b : Int) : j ≤ mx a b ↔ j ≤ a ∨ j ≤ b := by unfold mx; split <;> omega

theorem law (a b c : Nat → Int) (n k : Int) (w : World) :
    Calls Try.prog 3 #[V a, V b, V c, .agg #[.int .i64 n, .int .i64 k]] w fun e w' => e = .returned (.bool true) ∧ Below w.heap.size w w' := by
  refine core a b c (fun i => mx (a i) (b i)) (fun i => mx (mx (a i) (b i)) (c i)) (fun i => mx (b i) (c i)) (wiV a n k) n k w _ _ _ _ _ _ _ _
    (fun i _ => rfl) (fun i _ => mx_comm _ _) (fun i _ => rfl) (fun i _ => rfl) (fun i _ => mx_assoc _ _ _) (fun i _ => mx_self _)
    (show leV a _ = true from (leV_iff _ _).2 fun i _ => le_mx _ _) (show leV b _ = true from (leV_iff _ _).2 fun i _ => le_mx' _ _) rfl rfl rfl ?_ rfl rfl rfl ?_ rfl rfl ?_ (fun i _ => rfl) (show leV a _ = true from ?_) ?_ ?_
  · intro h1 h2
    rw [leV_iff] at h1 h2 ⊢
    exact fun i hi => mx_le (h1 i hi) (h2 i hi)
  · show hasV _ n k = (hasV a n k || hasV b n k)
    unfold hasV
    rw [Bool.eq_iff_iff]
    simp only [decide_eq_true_eq, Bool.or_eq_true, mx_le_iff]
    omega
  · intro h1 h2
    rw [leV_iff] at h1
    unfold hasV at h2 ⊢
    simp only [decide_eq_true_eq] at h2 ⊢
    have := h1 n.toNat (by omega)
    omega
  · rw [leV_iff]
    intro i _
    unfold wiV
    split
    · exact le_mx _ _
    · exact Int.le_refl _
  · intro h0 h1 h2
    unfold hasV wiV
    simp only [decide_eq_true_eq]
    refine ⟨h0, h1, h2, ?_⟩
    rw [if_pos (by omega)]
    exact le_mx' _ _
  · show eq8 _ _ _ _ _ _ _ _ _ _ _ _ _ _ _ _ = (leV a b && leV b a)
    rw [Bool.eq_iff_iff, eq8_iff a b, Bool.and_eq_true, leV_iff, leV_iff]
    constructor
    · intro h; exact ⟨fun i hi => by rw [h i hi]; exact Int.le_refl _, fun i hi => by rw [h i hi]; exact Int.le_refl _⟩
    · rintro ⟨h1, h2⟩ i hi
      have := h1 i hi; have := h2 i hi; omega
def sh0 : Sh := .pair (.int .i64) (.pair (.int .i64) (.pair (.int .i64) (.pair (.int .i64) (.pair (.int .i64) (.pair (.int .i64) (.pair (.int .i64) (.pair (.int .i64) .unit)))))))
def sh1 : Sh := sh0
def sh2 : Sh := sh0
def sh3 : Sh := .pair (.int .i64) (.pair (.int .i64) .unit)
theorem walk (w : World) (a : Array Value) (ha : RD w sh0 a.toList) (b : Array Value) (hb : RD w sh1 b.toList) (c : Array Value) (hc : RD w sh2 c.toList) (d : Array Value) (hd : RD w sh3 d.toList) :
    Calls Try.prog 3 #[.agg a, .agg b, .agg c, .agg d] w fun e w' => e = .returned (.bool true) ∧ Below w.heap.size w w' := by
  obtain ⟨u, rfl, _⟩ := rd_eight ha
  obtain ⟨v, rfl, _⟩ := rd_eight hb
  obtain ⟨x, rfl, _⟩ := rd_eight hc
  obtain ⟨n, k, rfl, _, _⟩ := rd_two hd
  exact law u v x n k w
end Go.Proofs.Ytngoopfdfihkpaa.WClockJoins
