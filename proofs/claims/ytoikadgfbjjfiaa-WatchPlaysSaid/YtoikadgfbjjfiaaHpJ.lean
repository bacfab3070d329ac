/- Chapter 5: a clock, plain: moments in order; set, cut, due. No condition. -/
import Derived.Test.YtoikadgfbjjfiaaHpI
namespace Go.Proofs.Ytoikadgfbjjfiaa.Wat
open Go.RowKit Kit Go.Shelf
set_option linter.unusedVariables false
theorem ltM_tot {a b : Mom} (h : a.id ≠ b.id) (hl : ltM a b = false) : ltM b a = true := by
  unfold ltM at *
  split at hl <;> rename_i e
  · rw [if_pos e.symm]; simp at *; omega
  · rw [if_neg (fun h => e h.symm)]; simp at *; omega
theorem ltM_trans {a b c : Mom} (h : ltM a b = true) (k : ltM b c = true) : ltM a c = true := by
  unfold ltM at *
  split at h <;> split at k <;> split <;> simp at * <;> omega
theorem ltM_at {a b : Mom} (h : ltM a b = true) : a.at_ ≤ b.at_ := by
  unfold ltM at h
  split at h <;> simp at h <;> omega
theorem ltM_irr (a : Mom) : ltM a a = false := ordM.irrefl a
def ins (m : Mom) : List Mom → List Mom
  | [] => [m]
  | x :: l => if ltM x m then x :: ins m l else m :: x :: l
theorem ins_perm (m : Mom) : ∀ L, (ins m L).Perm (m :: L)
  | [] => .refl _
  | x :: l => by
    rw [ins]
    split
    · exact ((ins_perm m l).cons x).trans (.swap _ _ _)
    · exact .refl _
theorem ins_mem {m x : Mom} {L : List Mom} : x ∈ ins m L ↔ x = m ∨ x ∈ L := by rw [(ins_perm m L).mem_iff]; simp
theorem ins_ord {m : Mom} : ∀ {L : List Mom}, L.Pairwise (fun a b => ltM a b = true) → (∀ x ∈ L, x.id ≠ m.id) → (ins m L).Pairwise (fun a b => ltM a b = true)
  | [], _, _ => by simp [ins]
  | x :: l, h, hn => by
    rw [List.pairwise_cons] at h
    rw [ins]
    split
    · rename_i e
      rw [List.pairwise_cons]
      refine ⟨fun y hy => ?_, ins_ord h.2 (fun y hy => hn y (List.mem_cons_of_mem _ hy))⟩
      rcases ins_mem.1 hy with rfl | hy
      · exact e
      · exact h.1 y hy
    · rename_i e
      have e := ltM_tot (hn x (by simp)) (by simpa using e)
      rw [List.pairwise_cons, List.pairwise_cons]
      refine ⟨fun y hy => ?_, h⟩
      rcases List.mem_cons.1 hy with rfl | hy
      · exact e
      · exact ltM_trans e (h.1 y hy)
def without (id : Int) (L : List Mom) : List Mom := L.filter fun m => decide (m.id ≠ id)
def setL (id at_ : Int) (L : List Mom) : List Mom := ins ⟨id, at_⟩ (without id L)
def okM (id at_ : Int) : Bool := decide (0 ≤ id) && decide (id ≤ 999) && decide (0 ≤ at_) && decide (at_ ≤ 1099511627776)
theorem without_mem {id : Int} {L : List Mom} {m : Mom} : m ∈ without id L ↔ m ∈ L ∧ m.id ≠ id := by unfold without; rw [List.mem_filter]; simp
theorem St.without {L : List Mom} (h : St L) (id : Int) : St (without id L) := h.filter _
theorem okM_iff {id at_ : Int} : okM id at_ = true ↔ 0 ≤ id ∧ id ≤ 999 ∧ 0 ≤ at_ ∧ at_ ≤ 1099511627776 := by
  unfold okM; simp [and_assoc]
theorem St.setL {L : List Mom} (h : St L) {id at_ : Int} (ok : okM id at_ = true) : St (setL id at_ L) := by
  have hw := h.without id
  have hk := okM_iff.1 ok
  refine ⟨ins_ord hw.ord (fun x hx => (without_mem.1 hx).2), ?_, fun m hm => ?_, fun m hm => ?_⟩
  · refine (((ins_perm ⟨id, at_⟩ (Wat.without id L)).map Mom.id).nodup_iff).2 ?_
    rw [List.map_cons, List.nodup_cons]
    refine ⟨fun hm => ?_, hw.nodup⟩
    obtain ⟨m, hm, e⟩ := List.mem_map.1 hm
    exact (without_mem.1 hm).2 e
  · rcases ins_mem.1 hm with rfl | hm
    · exact ⟨hk.1, hk.2.1⟩
    · exact hw.id0 m hm
  · rcases ins_mem.1 hm with rfl | hm
    · exact ⟨hk.2.2.1, hk.2.2.2⟩
    · exact hw.at0 m hm
def has (id : Int) (L : List Mom) : Bool := L.any fun m => decide (m.id = id)
def atL (id : Int) (L : List Mom) : Option Int := (L.find? fun m => decide (m.id = id)).map Mom.at_
def dueL (now : Int) (L : List Mom) : List Int := (L.filter fun m => decide (m.at_ ≤ now)).map Mom.id
def restL (now : Int) (L : List Mom) : List Mom := L.filter fun m => decide (now < m.at_)
theorem inj_id {L : List Mom} (h : (L.map Mom.id).Nodup) {a b : Mom} (ha : a ∈ L) (hb : b ∈ L) (e : a.id = b.id) : a = b := by
  induction L with
  | nil => cases ha
  | cons x l ih =>
    rw [List.map_cons, List.nodup_cons] at h
    rcases List.mem_cons.1 ha with e1 | h1 <;> rcases List.mem_cons.1 hb with e2 | h2
    · exact e1.trans e2.symm
    · exact absurd (List.mem_map.2 ⟨b, h2, by rw [← e, e1]⟩) h.1
    · exact absurd (List.mem_map.2 ⟨a, h1, by rw [e, e2]⟩) h.1
    · exact ih h.2 h1 h2
theorem St.find {L : List Mom} (h : St L) {m : Mom} (hm : m ∈ L) : atL m.id L = some m.at_ := by
  unfold atL
  cases hf : L.find? (fun x => decide (x.id = m.id)) with
  | none => exact absurd (List.find?_eq_none.1 hf m hm) (by simp)
  | some y =>
    have h1 := List.find?_some hf
    have h2 := List.mem_of_find?_eq_some hf
    rw [inj_id h.nodup h2 hm (of_decide_eq_true h1)]
    rfl
theorem atL_none {L : List Mom} {id : Int} (h : ∀ m ∈ L, m.id ≠ id) : atL id L = none := by
  unfold atL
  rw [List.find?_eq_none.2 (fun m hm => by simpa using h m hm)]
  rfl
theorem has_iff {L : List Mom} {id : Int} : has id L = true ↔ ∃ m ∈ L, m.id = id := by unfold has; simp
theorem has_none {L : List Mom} {id : Int} : has id L = false ↔ ∀ m ∈ L, m.id ≠ id := by unfold has; simp
/-- Where one is. -/
theorem plc_cases (hs : List Mom) (id : Int) : (plc hs id = -1 ∧ ∀ m ∈ hs, m.id ≠ id) ∨ ∃ i : Nat, plc hs id = (i : Int) ∧ i < hs.length ∧ (fn hs i).id = id := by
  unfold plc
  cases hf : hs.findIdx? (fun m => decide (m.id = id)) with
  | none =>
    left
    refine ⟨rfl, fun m hm e => ?_⟩
    have := List.findIdx?_eq_none_iff.1 hf m hm
    simp [e] at this
  | some i =>
    right
    obtain ⟨hi, h1, _⟩ := List.findIdx?_eq_some_iff_getElem.1 hf
    refine ⟨i, rfl, hi, ?_⟩
    rw [fn_eq hi]
    exact of_decide_eq_true h1
theorem top_head {hs L : List Mom} {m : Mom} (hp : Hp hs) (hl : hs.Perm (m :: L)) (hL : (m :: L).Pairwise (fun a b => ltM a b = true)) : fn hs 0 = m := by
  have h1 := hp.top m (hl.mem_iff.2 (by simp))
  have h0 : 0 < hs.length := by rw [hl.length_eq]; simp
  have h2 : fn hs 0 ∈ m :: L := hl.mem_iff.1 (by rw [fn_eq h0]; exact List.getElem_mem h0)
  rcases List.mem_cons.1 h2 with h3 | h3
  · exact h3
  · have := (List.pairwise_cons.1 hL).1 _ h3
    rw [this] at h1; cases h1
theorem pop_state {hs L : List Mom} {m : Mom} {k : Nat} (hp : Hp hs) (hl : hs.Perm (m :: L)) (hL : (m :: L).Pairwise (fun a b => ltM a b = true)) (hk : hs.length = k + 1) :
    fn (popR hs) k = m ∧ Hp ((popR hs).take k) ∧ ((popR hs).take k).Perm L := by
  obtain ⟨h1, h2, h3⟩ := hp.pop hk
  have h4 := top_head hp hl hL
  refine ⟨h1.trans h4, h2, ?_⟩
  rw [h4] at h3
  exact (h3.symm.trans hl).cons_inv
theorem rem_state {hs L : List Mom} {k i : Nat} {id : Int} (hp : Hp hs) (hl : hs.Perm L) (hL : St L) (hk : hs.length = k + 1) (hi : i ≤ k) (hid : (fn hs i).id = id) :
    Hp ((remR hs i).take k) ∧ ((remR hs i).take k).Perm (without id L) := by
  obtain ⟨h1, h2, h3⟩ := hp.rem hk hi
  refine ⟨h2, ?_⟩
  have h4 := (h3.symm.trans hl).filter (fun m => decide (m.id ≠ id))
  rw [List.filter_cons_of_neg (by simp [hid])] at h4
  have hd : (((fn hs i) :: (remR hs i).take k).map Mom.id).Nodup := (((h3.symm.trans hl).map Mom.id).nodup_iff).2 hL.nodup
  rw [List.map_cons, List.nodup_cons] at hd
  have h5 : ((remR hs i).take k).filter (fun m => decide (m.id ≠ id)) = (remR hs i).take k := List.filter_eq_self.2 (fun m hm => decide_eq_true (fun e => hd.1 (List.mem_map.2 ⟨m, hm, by rw [e, hid]⟩)))
  rw [h5] at h4
  exact h4
theorem without_self {L : List Mom} {id : Int} (h : ∀ m ∈ L, m.id ≠ id) : without id L = L := List.filter_eq_self.2 (fun m hm => decide_eq_true (h m hm))
theorem push_state {hs L : List Mom} (m : Mom) (hp : Hp hs) (hl : hs.Perm L) : Hp (pushF hs m) ∧ (pushF hs m).Perm (ins m L) := by
  obtain ⟨h1, h2⟩ := hp.push m
  exact ⟨h1, (h2.trans (hl.cons m)).trans (ins_perm m L).symm⟩
theorem due_cons_yes {now : Int} {m : Mom} {L : List Mom} (h : m.at_ ≤ now) : dueL now (m :: L) = m.id :: dueL now L ∧ restL now (m :: L) = restL now L := by
  unfold dueL restL
  rw [List.filter_cons_of_pos (by simpa using h), List.filter_cons_of_neg (by simp; omega)]
  exact ⟨rfl, rfl⟩
theorem due_cons_no {now : Int} {m : Mom} {L : List Mom} (hL : (m :: L).Pairwise (fun a b => ltM a b = true)) (h : now < m.at_) : dueL now (m :: L) = [] ∧ restL now (m :: L) = m :: L := by
  have hall : ∀ x ∈ m :: L, now < x.at_ := fun x hx => by
    rcases List.mem_cons.1 hx with rfl | hx
    · exact h
    · have := ltM_at ((List.pairwise_cons.1 hL).1 x hx)
      omega
  unfold dueL restL
  rw [List.filter_eq_nil_iff.2 (fun x hx => by have := hall x hx; simp; omega), List.filter_eq_self.2 (fun x hx => by have := hall x hx; simpa using this)]
  exact ⟨rfl, rfl⟩
end Go.Proofs.Ytoikadgfbjjfiaa.Wat
