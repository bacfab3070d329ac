/- Chapter 3: each claim is told so often, in rounds: plain. No condition. -/
import Derived.Test.YtoikadgfbjjfiaaRpN
namespace Go.Proofs.Ytoikadgfbjjfiaa.Rum
open Go.RowKit Kit Go.Shelf Hth Tri3
set_option linter.unusedVariables false
def inL (L : List Tld) (a : Nat) : Bool := L.any fun t => decide (t.node = (a : Int))
theorem inL_iff {L : List Tld} {a : Nat} : inL L a = true ↔ ∃ t ∈ L, t.node = (a : Int) := by unfold inL; simp
/-- How often each node's claim was told: S: whom there were. -/
structure Tol (o : Int) (S L : List Tld) (T : Nat → Int) : Prop where
  sub : ∀ a, inL L a = true → inL S a = true
  here : ∀ t ∈ L, ∀ a : Nat, t.node = (a : Int) → T a = t.n
  gone : ∀ a, inL S a = true → inL L a = false → T a = o
  out : ∀ a, inL S a = false → T a = 0
  near : ∀ s ∈ L, ∀ t ∈ L, t.n ≤ s.n + 1
/-- One more for each of l. -/
def tb (T : Nat → Int) (l : List Tld) : Nat → Int := fun a => T a + if inL l a then 1 else 0
theorem tb_nil (T : Nat → Int) : tb T [] = T := by funext a; simp [tb, inL]
theorem took_mem {o : Int} {k : Nat} {L : List Tld} {t : Tld} : t ∈ tookQ o k L ↔ (∃ s ∈ L.take k, s.n + 1 < o ∧ inc1 s = t) ∨ t ∈ L.drop k := by
  unfold tookQ
  rw [putAll_mem, again_mem]
theorem take_or_drop {L : List Tld} (k : Nat) {t : Tld} (h : t ∈ L) : t ∈ L.take k ∨ t ∈ L.drop k := by
  rw [← List.take_append_drop k L] at h
  exact List.mem_append.1 h
theorem split_node {L : List Tld} (h : St L) {k : Nat} {s t : Tld} (hs : s ∈ L.take k) (ht : t ∈ L.drop k) : s.node ≠ t.node := by
  have hd := h.nodup
  rw [← List.take_append_drop k L, List.map_append] at hd
  exact (List.nodup_append.1 hd).2.2 _ (List.mem_map.2 ⟨s, hs, rfl⟩) _ (List.mem_map.2 ⟨t, ht, rfl⟩)
theorem split_ord {L : List Tld} (h : St L) {k : Nat} {s t : Tld} (hs : s ∈ L.take k) (ht : t ∈ L.drop k) : s.n ≤ t.n := by
  have ho := h.ord
  rw [← List.take_append_drop k L, List.pairwise_append] at ho
  have := ho.2.2 s hs t ht
  unfold ltT at this
  split at this <;> simp at this <;> omega
theorem Tol.took {o : Int} {S L : List Tld} {T : Nat → Int} (h : Tol o S L T) (hst : St L) (hlt : Lt o L) (k : Nat) : Tol o S (tookQ o k L) (tb T (L.take k)) := by
  have hin : ∀ a, inL (tookQ o k L) a = true → inL L a = true := fun a ha => by
    obtain ⟨t, ht, e⟩ := inL_iff.1 ha
    rcases took_mem.1 ht with ⟨s, hs, _, rfl⟩ | h1
    · exact inL_iff.2 ⟨s, List.mem_of_mem_take hs, e⟩
    · exact inL_iff.2 ⟨t, List.mem_of_mem_drop h1, e⟩
  refine ⟨fun a ha => h.sub a (hin a ha), fun t ht a e => ?_, fun a ha hn => ?_, fun a ha => ?_, fun s hs t ht => ?_⟩
  · rcases took_mem.1 ht with ⟨s, hs, h2, rfl⟩ | h1
    · have h3 := h.here s (List.mem_of_mem_take hs) a e
      have h4 : inL (L.take k) a = true := inL_iff.2 ⟨s, hs, e⟩
      unfold tb
      rw [h3, h4]
      rfl
    · have h3 := h.here t (List.mem_of_mem_drop h1) a e
      have h4 : inL (L.take k) a = false := by
        cases h5 : inL (L.take k) a with
        | false => rfl
        | true =>
          obtain ⟨s, hs, e2⟩ := inL_iff.1 h5
          exact absurd (e2.trans e.symm) (split_node hst hs h1)
      unfold tb
      rw [h3, h4]
      simp
  · unfold tb
    cases hl : inL L a with
    | false =>
      have h4 : inL (L.take k) a = false := by
        cases h5 : inL (L.take k) a with
        | false => rfl
        | true =>
          obtain ⟨s, hs, e2⟩ := inL_iff.1 h5
          rw [inL_iff.2 ⟨s, List.mem_of_mem_take hs, e2⟩] at hl; cases hl
      rw [h.gone a ha hl, h4]; simp
    | true =>
      obtain ⟨t, ht, e⟩ := inL_iff.1 hl
      rcases take_or_drop k ht with h1 | h1
      · have h4 : inL (L.take k) a = true := inL_iff.2 ⟨t, h1, e⟩
        have h5 : ¬ t.n + 1 < o := fun h6 => by
          rw [inL_iff.2 ⟨inc1 t, took_mem.2 (.inl ⟨t, h1, h6, rfl⟩), e⟩] at hn; cases hn
        have h6 := hlt t ht
        rw [h.here t ht a e, h4]
        simp
        omega
      · rw [inL_iff.2 ⟨t, took_mem.2 (.inr h1), e⟩] at hn; cases hn
  · have h4 : inL (L.take k) a = false := by
      cases h5 : inL (L.take k) a with
      | false => rfl
      | true =>
        obtain ⟨s, hs, e2⟩ := inL_iff.1 h5
        rw [h.sub a (inL_iff.2 ⟨s, List.mem_of_mem_take hs, e2⟩)] at ha; cases ha
    unfold tb
    rw [h.out a ha, h4]; simp
  · rcases took_mem.1 hs with ⟨s', hs', _, rfl⟩ | h1
    · rcases took_mem.1 ht with ⟨t', ht', _, rfl⟩ | h2
      · have := h.near s' (List.mem_of_mem_take hs') t' (List.mem_of_mem_take ht')
        show t'.n + 1 ≤ s'.n + 1 + 1
        omega
      · have := h.near s' (List.mem_of_mem_take hs') t (List.mem_of_mem_drop h2)
        show t.n ≤ s'.n + 1 + 1
        omega
    · rcases took_mem.1 ht with ⟨t', ht', _, rfl⟩ | h2
      · have := split_ord hst ht' h1
        show t'.n + 1 ≤ s.n + 1
        omega
      · exact h.near s (List.mem_of_mem_drop h1) t (List.mem_of_mem_drop h2)
theorem Tol.start {o : Int} {L : List Tld} (h0 : ∀ t ∈ L, t.n = 0) : Tol o L L (fun _ => 0) :=
  ⟨fun a h => h, fun t ht a e => (h0 t ht).symm, (fun a h1 h2 => by rw [h1] at h2; cases h2), fun a h => rfl, (fun s hs t ht => by rw [h0 s hs, h0 t ht]; omega)⟩
def s8 (T : Nat → Int) : Int := T 0 + T 1 + T 2 + T 3 + T 4 + T 5 + T 6 + T 7
theorem Tol.bound {o : Int} {S L : List Tld} {T : Nat → Int} (h : Tol o S L T) (ho : 1 ≤ o) (hlt : Lt o L) (a : Nat) : 0 ≤ T a ∧ T a ≤ o := by
  cases hs : inL S a with
  | false => rw [h.out a hs]; omega
  | true =>
    cases hl : inL L a with
    | false => rw [h.gone a hs hl]; omega
    | true =>
      obtain ⟨t, ht, e⟩ := inL_iff.1 hl
      have := hlt t ht
      rw [h.here t ht a e]; omega
theorem Tol.s8_le {o : Int} {S L : List Tld} {T : Nat → Int} (h : Tol o S L T) (ho : 1 ≤ o) (hlt : Lt o L) : s8 T ≤ 8 * o := by
  have := h.bound ho hlt
  have h0 := this 0; have h1 := this 1; have h2 := this 2; have h3 := this 3; have h4 := this 4; have h5 := this 5; have h6 := this 6; have h7 := this 7
  unfold s8
  omega
theorem s8_up (T : Nat → Int) (l : List Tld) (t : Tld) (ht : t ∈ l) (h0 : 0 ≤ t.node ∧ t.node ≤ 7) : s8 T + 1 ≤ s8 (tb T l) := by
  have hb : ∀ a, T a ≤ tb T l a := fun a => by unfold tb; split <;> omega
  have h1 : ∀ a : Nat, t.node = (a : Int) → T a + 1 ≤ tb T l a := fun a e => by unfold tb; rw [inL_iff.2 ⟨t, ht, e⟩]; simp
  have g0 := hb 0; have g1 := hb 1; have g2 := hb 2; have g3 := hb 3; have g4 := hb 4; have g5 := hb 5; have g6 := hb 6; have g7 := hb 7
  unfold s8
  obtain ⟨a, ha⟩ : ∃ a : Nat, t.node = (a : Int) := ⟨t.node.toNat, by omega⟩
  have ha2 := h1 a ha
  have : a = 0 ∨ a = 1 ∨ a = 2 ∨ a = 3 ∨ a = 4 ∨ a = 5 ∨ a = 6 ∨ a = 7 := by omega
  rcases this with rfl | rfl | rfl | rfl | rfl | rfl | rfl | rfl <;> omega
/-- How many there are, node by node. -/
theorem count_nodes {L : List Tld} (h : St L) : ((List.range 8).filter fun a => inL L a).length = L.length := by
  have hp : (((List.range 8).filter fun a => inL L a).map (fun a : Nat => (a : Int))).Perm (L.map Tld.node) := by
    refine (List.perm_ext_iff_of_nodup ?_ h.nodup).2 fun x => ?_
    · rw [List.Nodup, List.pairwise_map]
      exact List.Pairwise.imp (fun h e => h (by omega)) (List.nodup_range.filter (fun a => inL L a))
    · rw [List.mem_map, List.mem_map]
      constructor
      · rintro ⟨a, ha, rfl⟩
        obtain ⟨_, h2⟩ := List.mem_filter.1 ha
        obtain ⟨t, ht, e⟩ := inL_iff.1 h2
        exact ⟨t, ht, e⟩
      · rintro ⟨t, ht, rfl⟩
        have hk := h.ok t ht
        refine ⟨t.node.toNat, List.mem_filter.2 ⟨List.mem_range.2 (by omega), inL_iff.2 ⟨t, ht, by omega⟩⟩, by omega⟩
  have := hp.length_eq
  simpa using this
theorem s8_ind (p : Nat → Bool) (o : Int) : s8 (fun a => if p a then o else 0) = (((List.range 8).filter p).length : Int) * o := by
  rw [← List.countP_eq_length_filter]
  have e : List.range 8 = [0, 1, 2, 3, 4, 5, 6, 7] := by decide
  rw [e]
  unfold s8
  simp only [List.countP_cons, List.countP_nil]
  cases p 0 <;> cases p 1 <;> cases p 2 <;> cases p 3 <;> cases p 4 <;> cases p 5 <;> cases p 6 <;> cases p 7 <;> simp <;> omega
/-- In the end each was told so often. -/
theorem Tol.all {o : Int} {S : List Tld} {T : Nat → Int} (h : Tol o S [] T) (hS : St S) : (∀ a, T a = 0 ∨ T a = o) ∧ s8 T = (S.length : Int) * o := by
  have hT : ∀ a, T a = if inL S a then o else 0 := fun a => by
    cases hs : inL S a with
    | false => rw [h.out a hs]; rfl
    | true => rw [h.gone a hs rfl]; rfl
  refine ⟨fun a => ?_, ?_⟩
  · rw [hT a]; split
    · exact .inr rfl
    · exact .inl rfl
  · have e : T = fun a => if inL S a then o else 0 := funext hT
    rw [e, s8_ind, count_nodes hS]
end Go.Proofs.Ytoikadgfbjjfiaa.Rum
