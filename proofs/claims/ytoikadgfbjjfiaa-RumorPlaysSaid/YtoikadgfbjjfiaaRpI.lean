/- Chapter 3: a queue of claims, plain: in order; put, told. No condition. -/
import Derived.Test.YtoikadgfbjjfiaaRpH
import Derived.Test.YtoikadgfbjjfiaaHth
import Derived.Test.YtoikadgfbjjfiaaThrees
namespace Go.Proofs.Ytoikadgfbjjfiaa.Rum
open Go.RowKit Kit Go.Shelf Hth Tri3
set_option linter.unusedVariables false
theorem ltM_tot {a b : Tld} (h : a.node ≠ b.node) (hl : ltT a b = false) : ltT b a = true := by
  unfold ltT at *
  split at hl <;> rename_i e
  · rw [if_pos e.symm]; simp at *; omega
  · rw [if_neg (fun h => e h.symm)]; simp at *; omega
theorem ltM_trans {a b c : Tld} (h : ltT a b = true) (k : ltT b c = true) : ltT a c = true := by
  unfold ltT at *
  split at h <;> split at k <;> split <;> simp at * <;> omega
theorem ltM_at {a b : Tld} (h : ltT a b = true) : a.n ≤ b.n := by
  unfold ltT at h
  split at h <;> simp at h <;> omega
theorem ltM_irr (a : Tld) : ltT a a = false := ordT.irrefl a
def ins (m : Tld) : List Tld → List Tld
  | [] => [m]
  | x :: l => if ltT x m then x :: ins m l else m :: x :: l
theorem ins_perm (m : Tld) : ∀ L, (ins m L).Perm (m :: L)
  | [] => .refl _
  | x :: l => by
    rw [ins]
    split
    · exact ((ins_perm m l).cons x).trans (.swap _ _ _)
    · exact .refl _
theorem ins_mem {m x : Tld} {L : List Tld} : x ∈ ins m L ↔ x = m ∨ x ∈ L := by rw [(ins_perm m L).mem_iff]; simp
theorem ins_ord {m : Tld} : ∀ {L : List Tld}, L.Pairwise (fun a b => ltT a b = true) → (∀ x ∈ L, x.node ≠ m.node) → (ins m L).Pairwise (fun a b => ltT a b = true)
  | [], _, _ => by simp [ins]
  | x :: l, h, hn => by
    rw [List.pairwise_cons] at h
    rw [ins]
    split
    · rename_i e
      rw [List.pairwise_cons]
      refine ⟨fun y hy => ?_, ins_ord h.2 (fun y hy => hn y (List.mem_cons_of_mem _ hy))⟩
      rcases ins_mem.1 hy with rfl | hy
      · exact e
      · exact h.1 y hy
    · rename_i e
      have e := ltM_tot (hn x (by simp)) (by simpa using e)
      rw [List.pairwise_cons, List.pairwise_cons]
      refine ⟨fun y hy => ?_, h⟩
      rcases List.mem_cons.1 hy with rfl | hy
      · exact e
      · exact ltM_trans e (h.1 y hy)
def without (id : Int) (L : List Tld) : List Tld := L.filter fun m => decide (m.node ≠ id)
theorem without_mem {id : Int} {L : List Tld} {m : Tld} : m ∈ without id L ↔ m ∈ L ∧ m.node ≠ id := by unfold without; rw [List.mem_filter]; simp
/-- A good queue: in order, each node once, only what may be. -/
structure St (L : List Tld) : Prop where
  ord : L.Pairwise (fun a b => ltT a b = true)
  nodup : (L.map Tld.node).Nodup
  ok : ∀ t ∈ L, 0 ≤ t.node ∧ t.node ≤ 7 ∧ 0 ≤ t.inc ∧ t.inc ≤ 1000000 ∧ 1 ≤ t.hl ∧ t.hl ≤ 4
theorem nodup_le : ∀ (N : Nat) (l : List Int), l.Nodup → (∀ x ∈ l, 0 ≤ x ∧ x < N) → l.length ≤ N
  | 0, [], _, _ => Nat.le_refl _
  | 0, a :: l, _, h => by have := h a (by simp); omega
  | N + 1, l, hd, h => by
    have h1 := nodup_le N (l.erase N) (hd.erase _) (fun x hx => by
      have h2 := h x (List.mem_of_mem_erase hx)
      have h3 : x ≠ (N : Int) := fun e => by
        subst e
        exact (List.Nodup.mem_erase_iff hd).1 hx |>.1 rfl
      omega)
    rw [List.length_erase] at h1
    split at h1 <;> omega
theorem St.len {L : List Tld} (h : St L) : L.length ≤ 8 := by
  have := nodup_le 8 (L.map Tld.node) h.nodup (fun x hx => by
    obtain ⟨m, hm, rfl⟩ := List.mem_map.1 hx
    have := h.ok m hm
    omega)
  simpa using this
theorem St.nil : St [] := ⟨.nil, .nil, fun _ h => absurd h (List.not_mem_nil)⟩
theorem St.filter {L : List Tld} (h : St L) (p : Tld → Bool) : St (L.filter p) :=
  ⟨h.ord.filter _, h.nodup.sublist (List.Sublist.map _ (List.filter_sublist)), fun m hm => h.ok m (List.mem_filter.1 hm).1⟩
theorem St.drop {L : List Tld} (h : St L) (k : Nat) : St (L.drop k) :=
  ⟨h.ord.drop, h.nodup.sublist (List.Sublist.map _ (List.drop_sublist _ _)), fun m hm => h.ok m (List.mem_of_mem_drop hm)⟩
theorem St.tail {m : Tld} {L : List Tld} (h : St (m :: L)) : St L := h.drop 1
theorem St.ins {m : Tld} {L : List Tld} (h : St L) (hn : ∀ x ∈ L, x.node ≠ m.node) (hm : 0 ≤ m.node ∧ m.node ≤ 7 ∧ 0 ≤ m.inc ∧ m.inc ≤ 1000000 ∧ 1 ≤ m.hl ∧ m.hl ≤ 4) : St (ins m L) := by
  refine ⟨ins_ord h.ord hn, ?_, fun t ht => ?_⟩
  · refine (((ins_perm m L).map Tld.node).nodup_iff).2 ?_
    rw [List.map_cons, List.nodup_cons]
    refine ⟨fun hm => ?_, h.nodup⟩
    obtain ⟨x, hx, e⟩ := List.mem_map.1 hm
    exact hn x hx e
  · rcases ins_mem.1 ht with rfl | ht
    · exact hm
    · exact h.ok t ht
theorem inj_id {L : List Tld} (h : (L.map Tld.node).Nodup) {a b : Tld} (ha : a ∈ L) (hb : b ∈ L) (e : a.node = b.node) : a = b := by
  induction L with
  | nil => cases ha
  | cons x l ih =>
    rw [List.map_cons, List.nodup_cons] at h
    rcases List.mem_cons.1 ha with e1 | h1 <;> rcases List.mem_cons.1 hb with e2 | h2
    · exact e1.trans e2.symm
    · exact absurd (List.mem_map.2 ⟨b, h2, by rw [← e, e1]⟩) h.1
    · exact absurd (List.mem_map.2 ⟨a, h1, by rw [e, e2]⟩) h.1
    · exact ih h.2 h1 h2
theorem plc_cases (hs : List Tld) (id : Int) : (plc hs id = -1 ∧ ∀ m ∈ hs, m.node ≠ id) ∨ ∃ i : Nat, plc hs id = (i : Int) ∧ i < hs.length ∧ (fn hs i).node = id := by
  unfold plc
  cases hf : hs.findIdx? (fun m => decide (m.node = id)) with
  | none =>
    left
    refine ⟨rfl, fun m hm e => ?_⟩
    have := List.findIdx?_eq_none_iff.1 hf m hm
    simp [e] at this
  | some i =>
    right
    obtain ⟨hi, h1, _⟩ := List.findIdx?_eq_some_iff_getElem.1 hf
    refine ⟨i, rfl, hi, ?_⟩
    rw [fn_eq hi]
    exact of_decide_eq_true h1
theorem top_head {hs L : List Tld} {m : Tld} (hp : Hp hs) (hl : hs.Perm (m :: L)) (hL : (m :: L).Pairwise (fun a b => ltT a b = true)) : fn hs 0 = m := by
  have h1 := hp.top m (hl.mem_iff.2 (by simp))
  have h0 : 0 < hs.length := by rw [hl.length_eq]; simp
  have h2 : fn hs 0 ∈ m :: L := hl.mem_iff.1 (by rw [fn_eq h0]; exact List.getElem_mem h0)
  rcases List.mem_cons.1 h2 with h3 | h3
  · exact h3
  · have := (List.pairwise_cons.1 hL).1 _ h3
    rw [this] at h1; cases h1
theorem pop_state {hs L : List Tld} {m : Tld} {k : Nat} (hp : Hp hs) (hl : hs.Perm (m :: L)) (hL : (m :: L).Pairwise (fun a b => ltT a b = true)) (hk : hs.length = k + 1) :
    fn (popR hs) k = m ∧ Hp ((popR hs).take k) ∧ ((popR hs).take k).Perm L := by
  obtain ⟨h1, h2, h3⟩ := hp.pop hk
  have h4 := top_head hp hl hL
  refine ⟨h1.trans h4, h2, ?_⟩
  rw [h4] at h3
  exact (h3.symm.trans hl).cons_inv
theorem rem_state {hs L : List Tld} {k i : Nat} {id : Int} (hp : Hp hs) (hl : hs.Perm L) (hL : St L) (hk : hs.length = k + 1) (hi : i ≤ k) (hid : (fn hs i).node = id) :
    Hp ((remR hs i).take k) ∧ ((remR hs i).take k).Perm (without id L) := by
  obtain ⟨h1, h2, h3⟩ := hp.rem hk hi
  refine ⟨h2, ?_⟩
  have h4 := (h3.symm.trans hl).filter (fun m => decide (m.node ≠ id))
  rw [List.filter_cons_of_neg (by simp [hid])] at h4
  have hd : (((fn hs i) :: (remR hs i).take k).map Tld.node).Nodup := (((h3.symm.trans hl).map Tld.node).nodup_iff).2 hL.nodup
  rw [List.map_cons, List.nodup_cons] at hd
  have h5 : ((remR hs i).take k).filter (fun m => decide (m.node ≠ id)) = (remR hs i).take k := List.filter_eq_self.2 (fun m hm => decide_eq_true (fun e => hd.1 (List.mem_map.2 ⟨m, hm, by rw [e, hid]⟩)))
  rw [h5] at h4
  exact h4
theorem without_self {L : List Tld} {id : Int} (h : ∀ m ∈ L, m.node ≠ id) : without id L = L := List.filter_eq_self.2 (fun m hm => decide_eq_true (h m hm))
theorem push_state {hs L : List Tld} (m : Tld) (hp : Hp hs) (hl : hs.Perm L) : Hp (pushF hs m) ∧ (pushF hs m).Perm (ins m L) := by
  obtain ⟨h1, h2⟩ := hp.push m
  exact ⟨h1, (h2.trans (hl.cons m)).trans (ins_perm m L).symm⟩
/-- What is there of a node. -/
def qof (node : Int) (L : List Tld) : Option Tld := L.find? fun t => decide (t.node = node)
theorem St.find {L : List Tld} (h : St L) {t : Tld} (ht : t ∈ L) : qof t.node L = some t := by
  unfold qof
  cases hf : L.find? (fun x => decide (x.node = t.node)) with
  | none => exact absurd (List.find?_eq_none.1 hf t ht) (by simp)
  | some y =>
    have h1 := List.find?_some hf
    have h2 := List.mem_of_find?_eq_some hf
    rw [inj_id h.nodup h2 ht (of_decide_eq_true h1)]
theorem qof_none {L : List Tld} {node : Int} (h : ∀ t ∈ L, t.node ≠ node) : qof node L = none := by
  unfold qof
  exact List.find?_eq_none.2 (fun t ht => by simpa using h t ht)
theorem qof_some {L : List Tld} {node : Int} {t : Tld} (h : qof node L = some t) : t ∈ L ∧ t.node = node := by
  unfold qof at h
  exact ⟨List.mem_of_find?_eq_some h, of_decide_eq_true (by simpa using List.find?_some h)⟩
/-- A claim that is new. -/
def tl (c : Cl) : Tld := ⟨c.n, c.i, c.h, 0⟩
def clm (t : Tld) : Cl := ⟨t.node, t.inc, t.hl⟩
def inc1 (t : Tld) : Tld := ⟨t.node, t.inc, t.hl, t.n + 1⟩
/-- A claim that may be, and says something. -/
def good (c : Cl) : Bool := mayC c.n c.i c.h && !(c.h == 0)
theorem good_iff (c : Cl) : good c = true ↔ 0 ≤ c.n ∧ c.n ≤ 7 ∧ 0 ≤ c.i ∧ c.i ≤ 1000000 ∧ 1 ≤ c.h ∧ c.h ≤ 4 := by
  unfold good mayC
  simp
  omega
/-- Is it put on? -/
def putB (c : Cl) (L : List Tld) : Bool := good c && match qof c.n L with
  | some t => decide (0 < cmpC c.i c.h t.inc t.hl)
  | none => true
def putQ (c : Cl) (L : List Tld) : List Tld := if putB c L then ins (tl c) (without c.n L) else L
theorem without_mem' {id : Int} {L : List Tld} {m : Tld} : m ∈ without id L ↔ m ∈ L ∧ m.node ≠ id := without_mem
theorem St.without {L : List Tld} (h : St L) (id : Int) : St (without id L) := h.filter _
theorem St.putQ {L : List Tld} (h : St L) (c : Cl) : St (putQ c L) := by
  unfold Rum.putQ
  split
  · rename_i e
    refine (h.without c.n).ins (fun x hx => (without_mem.1 hx).2) ?_
    unfold putB at e
    rw [Bool.and_eq_true] at e
    exact (good_iff c).1 e.1
  · exact h
def Lt (o : Int) (L : List Tld) : Prop := ∀ t ∈ L, 0 ≤ t.n ∧ t.n < o
theorem Lt.putQ {o : Int} {L : List Tld} (h : Lt o L) (ho : 1 ≤ o) (c : Cl) : Lt o (putQ c L) := by
  unfold Rum.putQ
  split
  · intro t ht
    rcases ins_mem.1 ht with rfl | ht
    · exact ⟨Int.le_refl 0, by show (0 : Int) < o; omega⟩
    · exact h t (without_mem.1 ht).1
  · exact h
/-- What is told again. -/
def again (o : Int) (L : List Tld) : List Tld := (L.filter fun t => decide (t.n + 1 < o)).map inc1
def putAll (l L : List Tld) : List Tld := l.foldl (fun L t => ins t L) L
/-- What is left when the first k are told. -/
def tookQ (o : Int) (k : Nat) (L : List Tld) : List Tld := putAll (again o (L.take k)) (L.drop k)
def toldQ (k : Nat) (L : List Tld) : List Cl := (L.take k).map clm
/-- How many are told. -/
def many (n : Int) (k : Nat) : Nat := min n.toNat k
theorem putAll_perm : ∀ (l L : List Tld), (putAll l L).Perm (l ++ L)
  | [], L => .refl _
  | t :: l, L => by
    show (putAll l (ins t L)).Perm _
    refine (putAll_perm l (ins t L)).trans ?_
    refine (List.Perm.append_left l (ins_perm t L)).trans ?_
    exact List.perm_middle
theorem putAll_mem {l L : List Tld} {t : Tld} : t ∈ putAll l L ↔ t ∈ l ∨ t ∈ L := by rw [(putAll_perm l L).mem_iff, List.mem_append]
theorem St.putAll : ∀ (l : List Tld) {L : List Tld}, St L → ((l ++ L).map Tld.node).Nodup → (∀ t ∈ l, 0 ≤ t.node ∧ t.node ≤ 7 ∧ 0 ≤ t.inc ∧ t.inc ≤ 1000000 ∧ 1 ≤ t.hl ∧ t.hl ≤ 4) → St (putAll l L)
  | [], L, h, _, _ => h
  | t :: l, L, h, hd, hk => by
    rw [List.cons_append, List.map_cons, List.nodup_cons] at hd
    refine St.putAll l (h.ins (fun x hx e => hd.1 (List.mem_map.2 ⟨x, List.mem_append_right _ hx, e⟩)) (hk t (by simp))) ?_ (fun x hx => hk x (List.mem_cons_of_mem _ hx))
    have hp : ((l ++ Rum.ins t L).map Tld.node).Perm (t.node :: (l ++ L).map Tld.node) := by
      have h1 := (List.Perm.append_left l (ins_perm t L)).trans List.perm_middle
      exact (h1.map Tld.node)
    rw [hp.nodup_iff, List.nodup_cons]
    exact hd
theorem again_node (o : Int) (L : List Tld) : ((again o L).map Tld.node).Sublist (L.map Tld.node) := by
  unfold again
  rw [List.map_map]
  have : (Tld.node ∘ inc1) = Tld.node := rfl
  rw [this]
  exact List.Sublist.map _ List.filter_sublist
theorem again_mem {o : Int} {L : List Tld} {t : Tld} : t ∈ again o L ↔ ∃ s ∈ L, s.n + 1 < o ∧ inc1 s = t := by
  unfold again
  rw [List.mem_map]
  constructor
  · rintro ⟨s, hs, rfl⟩
    obtain ⟨h1, h2⟩ := List.mem_filter.1 hs
    exact ⟨s, h1, of_decide_eq_true h2, rfl⟩
  · rintro ⟨s, h1, h2, rfl⟩
    exact ⟨s, List.mem_filter.2 ⟨h1, decide_eq_true h2⟩, rfl⟩
theorem St.tookQ {L : List Tld} (h : St L) (o : Int) (k : Nat) : St (tookQ o k L) := by
  refine St.putAll _ (h.drop k) ?_ (fun t ht => ?_)
  · have h1 := h.nodup
    rw [← List.take_append_drop k L, List.map_append] at h1
    rw [List.map_append]
    exact h1.sublist (List.Sublist.append (again_node o _) (List.Sublist.refl _))
  · obtain ⟨s, hs, _, rfl⟩ := again_mem.1 ht
    exact h.ok s (List.mem_of_mem_take hs)
theorem Lt.tookQ {o : Int} {L : List Tld} (h : Lt o L) (k : Nat) : Lt o (tookQ o k L) := fun t ht => by
  rcases putAll_mem.1 ht with h1 | h1
  · obtain ⟨s, hs, h2, rfl⟩ := again_mem.1 h1
    have := h s (List.mem_of_mem_take hs)
    exact ⟨by show 0 ≤ s.n + 1; omega, h2⟩
  · exact h t (List.mem_of_mem_drop h1)
end Go.Proofs.Ytoikadgfbjjfiaa.Rum
