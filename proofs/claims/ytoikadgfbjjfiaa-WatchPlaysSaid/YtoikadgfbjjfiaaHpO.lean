/- Chapter 5: words for the laws: numbers cut to a bound, what is due of moments. Plain. -/
import Derived.Test.YtoikadgfbjjfiaaHpN
namespace Go.Proofs.Ytoikadgfbjjfiaa.Wat
open Go.RowKit Kit Ints
set_option linter.unusedVariables false
theorem modm (n m : Int) (hm : 0 < m) (hb : m ≤ 4611686018427387904) : ∃ y : Int, 0 ≤ y ∧ y < m ∧ wrap64 ((IntKind.u64.wrap n).tmod m) = y := by
  have h : 0 ≤ IntKind.u64.wrap n := by rw [IntKind.wrap_u64]; omega
  generalize IntKind.u64.wrap n = t at h
  rw [Int.tmod_eq_emod_of_nonneg h]
  have h1 := Int.emod_nonneg t (b := m) (by omega)
  have h2 := Int.emod_lt_of_pos t hm
  refine ⟨t % m, h1, h2, ?_⟩
  generalize t % m = r at h1 h2
  unfold wrap64
  omega
theorem due_all {now : Int} {L : List Mom} (h : ∀ m ∈ L, m.at_ ≤ now) : dueL now L = L.map Mom.id ∧ restL now L = [] := by
  unfold dueL restL
  rw [List.filter_eq_self.2 (fun m hm => by simpa using h m hm), List.filter_eq_nil_iff.2 (fun m hm => by have := h m hm; simp; omega)]
  exact ⟨rfl, rfl⟩
theorem St.same_at {L : List Mom} (h : St L) {a : Int} (ha : ∀ m ∈ L, m.at_ = a) : (L.map Mom.id).Pairwise (· < ·) := by
  rw [List.pairwise_map]
  refine List.Pairwise.imp_of_mem ?_ h.ord
  intro x y hx hy hl
  unfold ltM at hl
  rw [if_pos (by rw [ha x hx, ha y hy])] at hl
  simpa using hl
theorem setL_mem {id at_ : Int} {L : List Mom} {m : Mom} : m ∈ setL id at_ L ↔ m = ⟨id, at_⟩ ∨ (m ∈ L ∧ m.id ≠ id) := by
  unfold setL
  rw [ins_mem, without_mem]
theorem setL_len (id at_ : Int) (L : List Mom) : 0 < (setL id at_ L).length := by
  unfold setL
  rw [(ins_perm _ _).length_eq]
  simp
theorem setLq_ok {id at_ : Int} {L : List Mom} (h : okM id at_ = true) : setLq id at_ L = setL id at_ L := by unfold setLq; rw [h]; rfl
end Go.Proofs.Ytoikadgfbjjfiaa.Wat
