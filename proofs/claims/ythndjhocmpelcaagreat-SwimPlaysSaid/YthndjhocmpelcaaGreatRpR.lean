/- Chapter 3: the document's own queue: Take, plain. No condition. -/
import Derived.Test.YthndjhocmpelcaaGreatRpQ
import Derived.Test.YthndjhocmpelcaaGreatGo
import Derived.Test.YthndjhocmpelcaaGreatArr8
namespace Go.Proofs.YthndjhocmpelcaaGreat.Rum
open Go.RowKit Kit Go.Shelf Hth Tri3
set_option linter.unusedVariables false
/-- Is t's node among l's? -/
def inN (l : List Tld) (t : Tld) : Bool := l.any fun s => decide (s.node = t.node)
theorem inN_iff {l : List Tld} {t : Tld} : inN l t = true ↔ ∃ s ∈ l, s.node = t.node := by unfold inN; simp
/-- The least of those that are not taken, among the first k. -/
def Best (T : Tld → Bool) (R : List Tld) (k : Nat) (b : Int) : Prop :=
  (b = -1 ∧ ∀ i, i < k → T (fn R i) = true) ∨ ∃ m : Nat, b = (m : Int) ∧ m < k ∧ T (fn R m) = false ∧ ∀ i, i < k → T (fn R i) = false → ltT (fn R i) (fn R m) = false
theorem Best.start (T : Tld → Bool) (R : List Tld) : Best T R 0 (-1) := .inl ⟨rfl, fun i h => absurd h (Nat.not_lt_zero _)⟩
theorem Best.skip {T : Tld → Bool} {R : List Tld} {k : Nat} {b : Int} (h : Best T R k b) (ht : T (fn R k) = true) : Best T R (k + 1) b := by
  rcases h with ⟨h1, h2⟩ | ⟨m, h1, h2, h3, h4⟩
  · refine .inl ⟨h1, fun i hi => ?_⟩
    by_cases e : i = k
    · subst e; exact ht
    · exact h2 i (by omega)
  · refine .inr ⟨m, h1, by omega, h3, fun i hi hf => ?_⟩
    by_cases e : i = k
    · subst e; rw [ht] at hf; cases hf
    · exact h4 i (by omega) hf
theorem Best.first {T : Tld → Bool} {R : List Tld} {k : Nat} (h : Best T R k (-1)) (ht : T (fn R k) = false) : Best T R (k + 1) k := by
  rcases h with ⟨h1, h2⟩ | ⟨m, h1, _⟩
  · refine .inr ⟨k, rfl, by omega, ht, fun i hi hf => ?_⟩
    by_cases e : i = k
    · subst e; exact ltM_irr _
    · rw [h2 i (by omega)] at hf; cases hf
  · omega
theorem Best.less {T : Tld → Bool} {R : List Tld} {k m : Nat} (h : Best T R k (m : Int)) (ht : T (fn R k) = false) (hl : ltT (fn R k) (fn R m) = true) : Best T R (k + 1) k := by
  rcases h with ⟨h1, h2⟩ | ⟨m', h1, h2, h3, h4⟩
  · omega
  · obtain rfl : m = m' := by omega
    refine .inr ⟨k, rfl, by omega, ht, fun i hi hf => ?_⟩
    by_cases e : i = k
    · subst e; exact ltM_irr _
    · cases hx : ltT (fn R i) (fn R k) with
      | false => rfl
      | true =>
        have := ltM_trans hx hl
        rw [h4 i (by omega) hf] at this; cases this
theorem Best.more {T : Tld → Bool} {R : List Tld} {k m : Nat} (h : Best T R k (m : Int)) (hl : ltT (fn R k) (fn R m) = false) : Best T R (k + 1) m := by
  rcases h with ⟨h1, h2⟩ | ⟨m', h1, h2, h3, h4⟩
  · omega
  · obtain rfl : m = m' := by omega
    refine .inr ⟨m, rfl, by omega, h3, fun i hi hf => ?_⟩
    by_cases e : i = k
    · subst e; exact hl
    · exact h4 i (by omega) hf
theorem Best.lt {T : Tld → Bool} {R : List Tld} {k m : Nat} (h : Best T R k (m : Int)) : m < k := by
  rcases h with ⟨h1, h2⟩ | ⟨m', h1, h2, h3, h4⟩ <;> omega
theorem inN_take {L : List Tld} (h : St L) {j i : Nat} {t : Tld} (hi : L[i]? = some t) : inN (L.take j) t = decide (i < j) := by
  by_cases e : i < j
  · rw [decide_eq_true e]
    refine inN_iff.2 ⟨t, ?_, rfl⟩
    refine List.mem_of_getElem? (i := i) ?_
    rw [List.getElem?_take, if_pos e, hi]
  · rw [decide_eq_false e]
    cases hx : inN (L.take j) t with
    | false => rfl
    | true =>
      obtain ⟨s, hs, es⟩ := inN_iff.1 hx
      refine absurd es (split_node h hs ?_)
      refine List.mem_of_getElem? (i := i - j) ?_
      rw [List.getElem?_drop, show j + (i - j) = i by omega, hi]
theorem Best.end_ {R L : List Tld} {j : Nat} {b : Int} {t : Tld} (h : Best (inN (L.take j)) R R.length b) (hp : R.Perm L) (hst : St L) (ht : L[j]? = some t) : ∃ m : Nat, b = (m : Int) ∧ m < R.length ∧ fn R m = t := by
  have hj := inN_take hst (j := j) ht
  rw [decide_eq_false (Nat.lt_irrefl j)] at hj
  obtain ⟨i, hi, e⟩ : ∃ i, i < R.length ∧ fn R i = t := by
    obtain ⟨i, hi, e⟩ := List.getElem_of_mem (hp.mem_iff.2 (List.mem_of_getElem? ht))
    exact ⟨i, hi, by rw [fn_eq hi, e]⟩
  rcases h with ⟨h1, h2⟩ | ⟨m, h1, h2, h3, h4⟩
  · have := h2 i hi
    rw [e, hj] at this; cases this
  · refine ⟨m, h1, h2, ?_⟩
    have h5 := h4 i hi (by rw [e]; exact hj)
    rw [e] at h5
    have hm : fn R m ∈ L := hp.mem_iff.1 (by rw [fn_eq h2]; exact List.getElem_mem h2)
    obtain ⟨i2, hi2, e2⟩ := List.getElem_of_mem hm
    have hg2 : L[i2]? = some (fn R m) := by rw [List.getElem?_eq_getElem hi2, e2]
    have h6 := inN_take hst (j := j) hg2
    rw [h3] at h6
    have h7 : ¬ i2 < j := fun hh => by rw [decide_eq_true hh] at h6; cases h6
    by_cases h8 : i2 = j
    · subst h8
      rw [ht] at hg2
      injection hg2 with hg2
      exact hg2.symm
    · have hjl : j < L.length := (List.getElem?_eq_some_iff.1 ht).1
      have h9 := List.pairwise_iff_getElem.1 hst.ord j i2 hjl hi2 (by omega)
      have e3 : L[j] = t := by rw [List.getElem?_eq_getElem hjl] at ht; injection ht
      rw [e3, e2, h5] at h9
      cases h9
/-- What is left of t. -/
def left1 (o : Int) (T : Tld → Bool) (t : Tld) : Option Tld := if T t then (if t.n + 1 < o then some (inc1 t) else none) else some t
def restF (o : Int) (T : Tld → Bool) (R : List Tld) : List Tld := R.filterMap (left1 o T)
theorem rest_snoc {o : Int} {T : Tld → Bool} {R : List Tld} {k : Nat} {t : Tld} (h : R[k]? = some t) : restF o T (R.take (k + 1)) = restF o T (R.take k) ++ (left1 o T t).toList := by
  unfold restF
  rw [take_snoc' h, List.filterMap_append]
  congr 1
theorem rest_len (o : Int) (T : Tld → Bool) (R : List Tld) : (restF o T R).length ≤ R.length := List.length_filterMap_le _ _
theorem rest_again (o : Int) (T : Tld → Bool) : ∀ l : List Tld, (∀ t ∈ l, T t = true) → restF o T l = again o l
  | [], _ => rfl
  | a :: l, h => by
    have ih := rest_again o T l (fun t ht => h t (List.mem_cons_of_mem _ ht))
    have ha := h a (by simp)
    unfold restF again at ih ⊢
    by_cases e : a.n + 1 < o
    · rw [List.filterMap_cons_some (b := inc1 a) (by simp [left1, ha, e]), ih, List.filter_cons_of_pos (by simpa using e)]; rfl
    · rw [List.filterMap_cons_none (by simp [left1, ha, e]), ih, List.filter_cons_of_neg (by simpa using e)]
theorem rest_self (o : Int) (T : Tld → Bool) : ∀ l : List Tld, (∀ t ∈ l, T t = false) → restF o T l = l
  | [], _ => rfl
  | a :: l, h => by
    have ih := rest_self o T l (fun t ht => h t (List.mem_cons_of_mem _ ht))
    have ha := h a (by simp)
    unfold restF at ih ⊢
    rw [List.filterMap_cons_some (b := a) (by simp [left1, ha]), ih]
theorem rest_perm {R L : List Tld} (hp : R.Perm L) (hst : St L) (o : Int) (m : Nat) : (restF o (inN (L.take m)) R).Perm (tookQ o m L) := by
  have h1 : (restF o (inN (L.take m)) R).Perm (restF o (inN (L.take m)) L) := hp.filterMap _
  refine h1.trans ?_
  have h2 : restF o (inN (L.take m)) L = again o (L.take m) ++ L.drop m := by
    have h3 : restF o (inN (L.take m)) (L.take m ++ L.drop m) = restF o (inN (L.take m)) (L.take m) ++ restF o (inN (L.take m)) (L.drop m) := List.filterMap_append
    rw [List.take_append_drop] at h3
    rw [h3, rest_again, rest_self]
    · intro t ht
      cases hx : inN (L.take m) t with
      | false => rfl
      | true =>
        obtain ⟨s, hs, es⟩ := inN_iff.1 hx
        exact absurd es (split_node hst hs ht)
    · exact fun t ht => inN_iff.2 ⟨t, ht, rfl⟩
  rw [h2]
  exact (putAll_perm _ _).symm
/-- Who is taken, node by node. -/
def tkn (l : List Tld) : Nat → Value := fun a => .bool (inL l a)
theorem tkn_at {l : List Tld} {t : Tld} {a : Nat} (e : t.node = (a : Int)) : inL l a = inN l t := by unfold inL inN; rw [e]
theorem tkn_nil (a : Nat) : tkn [] a = .bool false := rfl
theorem tkn_up {L : List Tld} {j e : Nat} {t : Tld} (h : L[j]? = some t) (he : t.node = (e : Int)) (a : Nat) : Arr8.upd (tkn (L.take j)) e (.bool true) a = tkn (L.take (j + 1)) a := by
  unfold Arr8.upd tkn
  rw [take_snoc' h]
  unfold inL
  rw [List.any_append]
  by_cases ea : a = e
  · subst ea
    rw [if_pos rfl]
    simp [he]
  · rw [if_neg ea]
    have : ¬ t.node = (a : Int) := fun h2 => ea (by omega)
    simp [this]
end Go.Proofs.YthndjhocmpelcaaGreat.Rum
