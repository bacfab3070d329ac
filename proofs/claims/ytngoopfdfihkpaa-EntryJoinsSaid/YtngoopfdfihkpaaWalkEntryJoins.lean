/- EntryJoins: the walk of the law, put together out of its ways; the plain facts on the order of entries. No condition. -/
import Derived.Test.YtngoopfdfihkpaaCaseEntryJoins
namespace Go.Proofs.Ytngoopfdfihkpaa.WEntryJoins
open Go.RowKit Kit PEntryJoins

theorem le_trans {a0 a1 b0 b1 c0 c1 : Int} (h : le a0 a1 b0 b1) (k : le b0 b1 c0 c1) : le a0 a1 c0 c1 := by unfold le at *; omega
theorem le_join (a0 a1 c0 c1 : Int) : le a0 a1 (joE a0 a1 c0 c1).1 (joE a0 a1 c0 c1).2 := by
  rcases le_total a0 a1 c0 c1 with h | h
  · rw [joE_le h]; exact h
  · rw [joE_ge h]; unfold le; omega
theorem assoc_ge {a0 a1 b0 b1 : Int} (c0 c1 : Int) (h : le b0 b1 a0 a1) : joE a0 a1 (joE b0 b1 c0 c1).1 (joE b0 b1 c0 c1).2 = joE a0 a1 c0 c1 := by
  rcases le_total b0 b1 c0 c1 with k | k
  · rw [joE_le k]
  · rw [joE_ge k]
    rw [joE_ge h, joE_ge (le_trans k h)]
theorem assoc_le {a0 a1 b0 b1 : Int} (c0 c1 : Int) (h : le a0 a1 b0 b1) : joE a0 a1 (joE b0 b1 c0 c1).1 (joE b0 b1 c0 c1).2 = joE b0 b1 c0 c1 := by
  rw [joE_le (le_trans h (le_join b0 b1 c0 c1))]
theorem cmpE_same (a0 a1 : Int) : cmpE a0 a1 a0 a1 = 0 := by rw [cmpE_val]; simp
theorem cmpE_lt {a0 a1 b0 b1 : Int} (h : a0 < b0 ∨ a0 = b0 ∧ a1 < b1) : cmpE a0 a1 b0 b1 = -1 := by
  rw [cmpE_val]; repeat (first | omega | split)
theorem cmpE_gt {a0 a1 b0 b1 : Int} (h : b0 < a0 ∨ a0 = b0 ∧ b1 < a1) : cmpE a0 a1 b0 b1 = 1 := by
  rw [cmpE_val]; repeat (first | omega | split)

theorem flip_two (a0 a1 t : Int) : (∃ e, e ≠ 0 ∧ entry_Flip.f 1 a0 a1 t = some (0, 0, e)) ∨
    (0 ≤ a0 ∧ a0 ≤ 1000000 ∧ entry_Flip.f 1 a0 a1 t = some (a0 + 1, t, 0) ∧ mayE (a0 + 1) t = true) := by
  by_cases h : mayE a0 a1 = true ∧ isNode t = true
  · obtain ⟨hm, hn⟩ := h
    have hm' := mayE_t.1 hm
    by_cases h6 : a0 = 1000000
    · exact .inl ⟨6, by omega, by rw [flip_s 1 (by omega), if_pos ⟨hm, hn⟩, if_pos h6]⟩
    · refine .inr ⟨by omega, by omega, flip_ok 1 (by omega) _ _ _ hm hn h6, ?_⟩
      have := isNode_t.1 hn
      rw [mayE_t]; omega
  · exact .inl ⟨1, by omega, by rw [flip_s 1 (by omega), if_neg h]⟩

theorem law (a0 a1 b0 b1 c0 c1 t : Int) (w : World) :
    Calls Try.prog 8 #[.agg #[.int .i64 a0, .int .i64 a1], .agg #[.int .i64 b0, .int .i64 b1], .agg #[.int .i64 c0, .int .i64 c1], .int .i64 t] w fun e w' => e = .returned (.bool true) ∧ Below w.heap.size w w' := by
  have hself : ∀ p q : Int, joE p q p q = (p, q) := fun p q => joE_le (by unfold le; omega)
  have tri : (a0 = b0 ∧ a1 = b1) ∨ b0 < a0 ∨ (a0 = b0 ∧ b1 < a1) ∨ a0 < b0 ∨ (a0 = b0 ∧ a1 < b1) := by omega
  have m0 : mayE 0 0 = true := by decide
  rcases tri with ⟨rfl, rfl⟩ | h | ⟨rfl, h⟩ | h | ⟨rfl, h⟩
  · have hj := hself a0 a1
    have hl : le a0 a1 a0 a1 := by unfold le; omega
    have hz := cmpE_same a0 a1
    rcases flip_two a0 a1 t with ⟨e, he, hf⟩ | ⟨k0, k1, hf, hm⟩
    · exact case_eq_err a0 a1 c0 c1 t _ _ e w hj hj rfl rfl (assoc_le c0 c1 hl) hj hz hz hz hz (by simpa using he) (by simpa using he) hf m0
    · exact case_eq_ok a0 a1 c0 c1 t _ _ w hj hj rfl rfl (assoc_le c0 c1 hl) hj hz hz hz hz k0 k1 hf hm (joE_le (by unfold le; omega)) (cmpE_gt (by omega))
  · have hl : le b0 b1 a0 a1 := by unfold le; omega
    have hb : (a0 == b0) = false := by simp; omega
    rcases flip_two a0 a1 t with ⟨e, he, hf⟩ | ⟨k0, k1, hf, hm⟩
    · exact case_ge_err a0 a1 b0 b1 c0 c1 t _ _ _ _ e w (joE_ge hl) (joE_le hl) rfl rfl (assoc_ge c0 c1 hl) (hself _ _) (cmpE_same _ _) (cmpE_lt (by omega)) (cmpE_gt (by omega)) (cmpE_lt (by omega)) hb (by simpa using he) (by simpa using he) hf m0
    · exact case_ge_ok a0 a1 b0 b1 c0 c1 t _ _ _ _ w (joE_ge hl) (joE_le hl) rfl rfl (assoc_ge c0 c1 hl) (hself _ _) (cmpE_same _ _) (cmpE_lt (by omega)) (cmpE_gt (by omega)) (cmpE_lt (by omega)) hb k0 k1 hf hm (joE_le (by unfold le; omega)) (cmpE_gt (by omega))
  · have hl : le a0 b1 a0 a1 := by unfold le; omega
    have hb : (a1 == b1) = false := by simp; omega
    rcases flip_two a0 a1 t with ⟨e, he, hf⟩ | ⟨k0, k1, hf, hm⟩
    · exact case_ge1_err a0 a1 b1 c0 c1 t _ _ _ _ e w (joE_ge hl) (joE_le hl) rfl rfl (assoc_ge c0 c1 hl) (hself _ _) (cmpE_same _ _) (cmpE_lt (by omega)) (cmpE_gt (by omega)) (cmpE_lt (by omega)) hb (by simpa using he) (by simpa using he) hf m0
    · exact case_ge1_ok a0 a1 b1 c0 c1 t _ _ _ _ w (joE_ge hl) (joE_le hl) rfl rfl (assoc_ge c0 c1 hl) (hself _ _) (cmpE_same _ _) (cmpE_lt (by omega)) (cmpE_gt (by omega)) (cmpE_lt (by omega)) hb k0 k1 hf hm (joE_le (by unfold le; omega)) (cmpE_gt (by omega))
  · have hl : le a0 a1 b0 b1 := by unfold le; omega
    have hb : (a0 == b0) = false := by simp; omega
    have hb' : (b0 == a0) = false := by simp; omega
    rcases flip_two a0 a1 t with ⟨e, he, hf⟩ | ⟨k0, k1, hf, hm⟩
    · exact case_lt_err a0 a1 b0 b1 c0 c1 t _ _ e w (joE_le hl) (joE_ge hl) rfl rfl (assoc_le c0 c1 hl) (hself _ _) (cmpE_lt (by omega)) (cmpE_same _ _) (cmpE_lt (by omega)) (cmpE_gt (by omega)) hb hb' (by simpa using he) (by simpa using he) hf m0
    · exact case_lt_ok a0 a1 b0 b1 c0 c1 t _ _ w (joE_le hl) (joE_ge hl) rfl rfl (assoc_le c0 c1 hl) (hself _ _) (cmpE_lt (by omega)) (cmpE_same _ _) (cmpE_lt (by omega)) (cmpE_gt (by omega)) hb hb' k0 k1 hf hm (joE_le (by unfold le; omega)) (cmpE_gt (by omega))
  · have hl : le a0 a1 a0 b1 := by unfold le; omega
    have hb : (a1 == b1) = false := by simp; omega
    have hb' : (b1 == a1) = false := by simp; omega
    rcases flip_two a0 a1 t with ⟨e, he, hf⟩ | ⟨k0, k1, hf, hm⟩
    · exact case_lt1_err a0 a1 b1 c0 c1 t _ _ e w (joE_le hl) (joE_ge hl) rfl rfl (assoc_le c0 c1 hl) (hself _ _) (cmpE_lt (by omega)) (cmpE_same _ _) (cmpE_lt (by omega)) (cmpE_gt (by omega)) hb hb' (by simpa using he) (by simpa using he) hf m0
    · exact case_lt1_ok a0 a1 b1 c0 c1 t _ _ w (joE_le hl) (joE_ge hl) rfl rfl (assoc_le c0 c1 hl) (hself _ _) (cmpE_lt (by omega)) (cmpE_same _ _) (cmpE_lt (by omega)) (cmpE_gt (by omega)) hb hb' k0 k1 hf hm (joE_le (by unfold le; omega)) (cmpE_gt (by omega))

def shE : Sh := .pair (.int .i64) (.pair (.int .i64) .unit)
def sh0 : Sh := shE
def sh1 : Sh := shE
def sh2 : Sh := shE
theorem walk (w : World) (a : Array Value) (ha : RD w sh0 a.toList) (b : Array Value) (hb : RD w sh1 b.toList) (c : Array Value) (hc : RD w sh2 c.toList) (t : Int) (_ht : (Lit.int .i64 t).wf = true) :
    Calls Try.prog 8 #[.agg a, .agg b, .agg c, .int .i64 t] w fun e w' => e = .returned (.bool true) ∧ Below w.heap.size w w' := by
  obtain ⟨a0, a1, rfl, _, _⟩ := rd_two ha
  obtain ⟨b0, b1, rfl, _, _⟩ := rd_two hb
  obtain ⟨c0, c1, rfl, _, _⟩ := rd_two hc
  exact law a0 a1 b0 b1 c0 c1 t w
end Go.Proofs.Ytngoopfdfihkpaa.WEntryJoins
