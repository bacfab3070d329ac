/- The document's queue, first part. Conditions: as each theorem says. -/
import Derived.Test.YthndjhocmpelcaaGreatGe
namespace Go.Proofs.YthndjhocmpelcaaGreat.Rum
open Go.RowKit Kit Go.Shelf Hth Tri3
set_option linter.unusedVariables false
theorem aw1 : putQ ⟨2, 1, 1⟩ [] = [⟨2, 1, 1, 0⟩] := by kernel_rfl
theorem aw2 : putQ ⟨1, 1, 3⟩ [⟨2, 1, 1, 0⟩] = [⟨1, 1, 3, 0⟩, ⟨2, 1, 1, 0⟩] := by kernel_rfl
theorem aw3 : tookQ 1 1 [⟨1, 1, 3, 0⟩, ⟨2, 1, 1, 0⟩] = [⟨2, 1, 1, 0⟩] := by kernel_rfl
theorem aw4 : putB ⟨2, 1, 1⟩ [] = true := by kernel_rfl
theorem aw5 : putB ⟨1, 1, 3⟩ [⟨2, 1, 1, 0⟩] = true := by kernel_rfl
theorem aw6 : toldQ 1 [⟨1, 1, 3, 0⟩, ⟨2, 1, 1, 0⟩] = [⟨1, 1, 3⟩] := by kernel_rfl
/-- A struct of five numbers. -/
theorem rd_five {w : World} {cs : List Value} (h : RD w (.pair (.int .i64) (.pair (.int .i64) (.pair (.pair (.int .i64) (.pair (.int .i64) (.pair (.int .i64) .unit))) .unit))) cs) : ∃ d n a b c : Int, cs = [.int .i64 d, .int .i64 n, .int .i64 a, .int .i64 b, .int .i64 c] := by
  obtain ⟨_, _, rfl, _, g0, h0⟩ := rd_pair h
  obtain ⟨d, rfl, _⟩ := rd_int g0
  obtain ⟨_, _, rfl, _, g1, h1⟩ := rd_pair h0
  obtain ⟨n, rfl, _⟩ := rd_int g1
  obtain ⟨_, _, rfl, _, g2, h2⟩ := rd_pair h1
  obtain ⟨a, b, c, rfl⟩ := rd_three g2
  obtain rfl := rd_unit h2
  exact ⟨d, n, a, b, c, rfl⟩
end Go.Proofs.YthndjhocmpelcaaGreat.Rum
namespace Go.Proofs.YthndjhocmpelcaaGreat.Rum
open Go.RowKit Kit Go.Shelf Hth Tri3
set_option linter.unusedVariables false
theorem modm (n m : Int) (hm : 0 < m) (hb : m ≤ 4611686018427387904) : ∃ y : Int, 0 ≤ y ∧ y < m ∧ wrap64 ((IntKind.u64.wrap n).tmod m) = y := by
  have h : 0 ≤ IntKind.u64.wrap n := by rw [IntKind.wrap_u64]; omega
  generalize IntKind.u64.wrap n = t at h
  rw [Int.tmod_eq_emod_of_nonneg h]
  have h1 := Int.emod_nonneg t (b := m) (by omega)
  have h2 := Int.emod_lt_of_pos t hm
  refine ⟨t % m, h1, h2, ?_⟩
  generalize t % m = r at h1 h2
  unfold wrap64
  omega
theorem ofn_id {o : Int} (h : 1 ≤ o ∧ o ≤ 20) : o = ofn o := by unfold ofn; rw [if_neg (by omega), if_neg (by omega)]
theorem cmp_self (i h : Int) : cmpC i h i h = 0 := by unfold cmpC; repeat' split
                                                      all_goals omega
/-- A claim alone, told k times. -/
def one (c : Cl) (k : Int) : Tld := ⟨c.n, c.i, c.h, k⟩
theorem putB_nil (c : Cl) : putB c [] = good c := by unfold putB qof; simp
theorem putQ_no {c : Cl} {L : List Tld} (h : putB c L = false) : putQ c L = L := by unfold putQ; rw [h]; rfl
theorem putQ_nil {c : Cl} (h : good c = true) : putQ c [] = [one c 0] := by unfold putQ; rw [putB_nil, h]; rfl
theorem putB_one (c : Cl) (k : Int) : putB c [one c k] = false := by
  unfold putB qof
  simp [one, cmp_self]
theorem qof_one (c : Cl) (k : Int) : qof c.n [one c k] = some (one c k) := by unfold qof; simp [one]
theorem took_one_yes {c : Cl} {k o : Int} (h : k + 1 < o) : tookQ o 1 [one c k] = [one c (k + 1)] := by
  unfold tookQ again
  simp [one, h, putAll, ins, inc1]
theorem took_one_no {c : Cl} {k o : Int} (h : ¬ k + 1 < o) : tookQ o 1 [one c k] = [] := by
  unfold tookQ again
  simp [one, h, putAll]
theorem Box3.wr {w w' : World} {q : Nat} {x y z : Int} {S : Nat → Prop} (h : Box3 w q x y z) (r : Wr w w' S) (hn : ¬ S q) : Box3 w' q x y z := by
  have hf : ∀ o, w'.frozen? ⟨q, o, none⟩ = w.frozen? ⟨q, o, none⟩ := fun o => r.frozen h.lt hn
  exact ⟨r.cell h.c0 hn, r.cell h.c1 hn, r.cell h.c2 hn, (hf 0).trans h.f0, (hf 1).trans h.f1, (hf 2).trans h.f2⟩
theorem Box3.set0 {w : World} {q : Nat} {x y z : Int} (h : Box3 w q x y z) (n : Int) : Box3 (w.setCell ⟨q, 0, none⟩ (.int .i64 n)) q n y z := by
  refine ⟨World.cell?_setCell_same w ⟨q, 0, none⟩ _ h.c0, (World.cell?_setCell_other _ _ _ _ (by simp)).trans h.c1, (World.cell?_setCell_other _ _ _ _ (by simp)).trans h.c2, ?_, ?_, ?_⟩
  · rw [World.frozen?_setCell]; exact h.f0
  · rw [World.frozen?_setCell]; exact h.f1
  · rw [World.frozen?_setCell]; exact h.f2
def eq3 (a b c x y z : Int) : Bool := a == x && (b == y && c == z)
theorem equalIn53 (d : Nat) (a b c x y z : Int) (w : World) : (Op.equalIn (d + 2) 30 (.agg #[.int .i64 a, .int .i64 b, .int .i64 c]) (.agg #[.int .i64 x, .int .i64 y, .int .i64 z])).run Tryz.prog w = .ok (eq3 a b c x y z) w := by
  rw [Op.equalIn]
  simp only [Sem.run_bind, run_underlying Tryz.underlying30, Result.andThen_ok]
  simp [go_sem]
  unfold eq3
  repeat' split
  all_goals simp_all
theorem eql53 (a b c x y z : Int) (w : World) : (binOp .eql 30 (.agg #[.int .i64 a, .int .i64 b, .int .i64 c]) (.agg #[.int .i64 x, .int .i64 y, .int .i64 z])).run Tryz.prog w = .ok (.bool (eq3 a b c x y z)) w := by
  rw [run_eql_struct, equalIn53 9998]; rfl
theorem neq53 (a b c x y z : Int) (w : World) : (binOp .neq 30 (.agg #[.int .i64 a, .int .i64 b, .int .i64 c]) (.agg #[.int .i64 x, .int .i64 y, .int .i64 z])).run Tryz.prog w = .ok (.bool (!eq3 a b c x y z)) w := by
  rw [run_neq_struct, equalIn53 9998]; rfl
theorem eq3_self (a b c : Int) : eq3 a b c a b c = true := by simp [eq3]
theorem neq53_self (a b c : Int) (w : World) : (binOp .neq 30 (.agg #[.int .i64 a, .int .i64 b, .int .i64 c]) (.agg #[.int .i64 a, .int .i64 b, .int .i64 c])).run Tryz.prog w = .ok (.bool false) w := by
  rw [neq53, eq3_self]; rfl
theorem eql53_self (a b c : Int) (w : World) : (binOp .eql 30 (.agg #[.int .i64 a, .int .i64 b, .int .i64 c]) (.agg #[.int .i64 a, .int .i64 b, .int .i64 c])).run Tryz.prog w = .ok (.bool true) w := by
  rw [eql53, eq3_self]
end Go.Proofs.YthndjhocmpelcaaGreat.Rum
namespace Go.Proofs.YthndjhocmpelcaaGreat.Rum
open Go.RowKit Kit Go.Shelf Hth Tri3
set_option linter.unusedVariables false
def inL (L : List Tld) (a : Nat) : Bool := L.any fun t => decide (t.node = (a : Int))
theorem inL_iff {L : List Tld} {a : Nat} : inL L a = true ↔ ∃ t ∈ L, t.node = (a : Int) := by unfold inL; simp
/-- How often each node's claim was told: S: whom there were. -/
structure Tol (o : Int) (S L : List Tld) (T : Nat → Int) : Prop where
  sub : ∀ a, inL L a = true → inL S a = true
  here : ∀ t ∈ L, ∀ a : Nat, t.node = (a : Int) → T a = t.n
  gone : ∀ a, inL S a = true → inL L a = false → T a = o
  out : ∀ a, inL S a = false → T a = 0
  near : ∀ s ∈ L, ∀ t ∈ L, t.n ≤ s.n + 1
/-- One more for each of l. -/
def tb (T : Nat → Int) (l : List Tld) : Nat → Int := fun a => T a + if inL l a then 1 else 0
theorem tb_nil (T : Nat → Int) : tb T [] = T := by funext a; simp [tb, inL]
theorem took_mem {o : Int} {k : Nat} {L : List Tld} {t : Tld} : t ∈ tookQ o k L ↔ (∃ s ∈ L.take k, s.n + 1 < o ∧ inc1 s = t) ∨ t ∈ L.drop k := by
  unfold tookQ
  rw [putAll_mem, again_mem]
theorem take_or_drop {L : List Tld} (k : Nat) {t : Tld} (h : t ∈ L) : t ∈ L.take k ∨ t ∈ L.drop k := by
  rw [← List.take_append_drop k L] at h
  exact List.mem_append.1 h
theorem split_node {L : List Tld} (h : St L) {k : Nat} {s t : Tld} (hs : s ∈ L.take k) (ht : t ∈ L.drop k) : s.node ≠ t.node := by
  have hd := h.nodup
  rw [← List.take_append_drop k L, List.map_append] at hd
  exact (List.nodup_append.1 hd).2.2 _ (List.mem_map.2 ⟨s, hs, rfl⟩) _ (List.mem_map.2 ⟨t, ht, rfl⟩)
theorem split_ord {L : List Tld} (h : St L) {k : Nat} {s t : Tld} (hs : s ∈ L.take k) (ht : t ∈ L.drop k) : s.n ≤ t.n := by
  have ho := h.ord
  rw [← List.take_append_drop k L, List.pairwise_append] at ho
  have := ho.2.2 s hs t ht
  unfold ltT at this
  split at this <;> simp at this <;> omega
theorem Tol.took {o : Int} {S L : List Tld} {T : Nat → Int} (h : Tol o S L T) (hst : St L) (hlt : Lt o L) (k : Nat) : Tol o S (tookQ o k L) (tb T (L.take k)) := by
  have hin : ∀ a, inL (tookQ o k L) a = true → inL L a = true := fun a ha => by
    obtain ⟨t, ht, e⟩ := inL_iff.1 ha
    rcases took_mem.1 ht with ⟨s, hs, _, rfl⟩ | h1
    · exact inL_iff.2 ⟨s, List.mem_of_mem_take hs, e⟩
    · exact inL_iff.2 ⟨t, List.mem_of_mem_drop h1, e⟩
  refine ⟨fun a ha => h.sub a (hin a ha), fun t ht a e => ?_, fun a ha hn => ?_, fun a ha => ?_, fun s hs t ht => ?_⟩
  · rcases took_mem.1 ht with ⟨s, hs, h2, rfl⟩ | h1
    · have h3 := h.here s (List.mem_of_mem_take hs) a e
      have h4 : inL (L.take k) a = true := inL_iff.2 ⟨s, hs, e⟩
      unfold tb
      rw [h3, h4]
      rfl
    · have h3 := h.here t (List.mem_of_mem_drop h1) a e
      have h4 : inL (L.take k) a = false := by
        cases h5 : inL (L.take k) a with
        | false => rfl
        | true =>
          obtain ⟨s, hs, e2⟩ := inL_iff.1 h5
          exact absurd (e2.trans e.symm) (split_node hst hs h1)
      unfold tb
      rw [h3, h4]
      simp
  · unfold tb
    cases hl : inL L a with
    | false =>
      have h4 : inL (L.take k) a = false := by
        cases h5 : inL (L.take k) a with
        | false => rfl
        | true =>
          obtain ⟨s, hs, e2⟩ := inL_iff.1 h5
          rw [inL_iff.2 ⟨s, List.mem_of_mem_take hs, e2⟩] at hl; cases hl
      rw [h.gone a ha hl, h4]; simp
    | true =>
      obtain ⟨t, ht, e⟩ := inL_iff.1 hl
      rcases take_or_drop k ht with h1 | h1
      · have h4 : inL (L.take k) a = true := inL_iff.2 ⟨t, h1, e⟩
        have h5 : ¬ t.n + 1 < o := fun h6 => by
          rw [inL_iff.2 ⟨inc1 t, took_mem.2 (.inl ⟨t, h1, h6, rfl⟩), e⟩] at hn; cases hn
        have h6 := hlt t ht
        rw [h.here t ht a e, h4]
        simp
        omega
      · rw [inL_iff.2 ⟨t, took_mem.2 (.inr h1), e⟩] at hn; cases hn
  · have h4 : inL (L.take k) a = false := by
      cases h5 : inL (L.take k) a with
      | false => rfl
      | true =>
        obtain ⟨s, hs, e2⟩ := inL_iff.1 h5
        rw [h.sub a (inL_iff.2 ⟨s, List.mem_of_mem_take hs, e2⟩)] at ha; cases ha
    unfold tb
    rw [h.out a ha, h4]; simp
  · rcases took_mem.1 hs with ⟨s', hs', _, rfl⟩ | h1
    · rcases took_mem.1 ht with ⟨t', ht', _, rfl⟩ | h2
      · have := h.near s' (List.mem_of_mem_take hs') t' (List.mem_of_mem_take ht')
        show t'.n + 1 ≤ s'.n + 1 + 1
        omega
      · have := h.near s' (List.mem_of_mem_take hs') t (List.mem_of_mem_drop h2)
        show t.n ≤ s'.n + 1 + 1
        omega
    · rcases took_mem.1 ht with ⟨t', ht', _, rfl⟩ | h2
      · have := split_ord hst ht' h1
        show t'.n + 1 ≤ s.n + 1
        omega
      · exact h.near s (List.mem_of_mem_drop h1) t (List.mem_of_mem_drop h2)
theorem Tol.start {o : Int} {L : List Tld} (h0 : ∀ t ∈ L, t.n = 0) : Tol o L L (fun _ => 0) :=
  ⟨fun a h => h, fun t ht a e => (h0 t ht).symm, (fun a h1 h2 => by rw [h1] at h2; cases h2), fun a h => rfl, (fun s hs t ht => by rw [h0 s hs, h0 t ht]; omega)⟩
def s8 (T : Nat → Int) : Int := T 0 + T 1 + T 2 + T 3 + T 4 + T 5 + T 6 + T 7
theorem Tol.bound {o : Int} {S L : List Tld} {T : Nat → Int} (h : Tol o S L T) (ho : 1 ≤ o) (hlt : Lt o L) (a : Nat) : 0 ≤ T a ∧ T a ≤ o := by
  cases hs : inL S a with
  | false => rw [h.out a hs]; omega
  | true =>
    cases hl : inL L a with
    | false => rw [h.gone a hs hl]; omega
    | true =>
      obtain ⟨t, ht, e⟩ := inL_iff.1 hl
      have := hlt t ht
      rw [h.here t ht a e]; omega
theorem Tol.s8_le {o : Int} {S L : List Tld} {T : Nat → Int} (h : Tol o S L T) (ho : 1 ≤ o) (hlt : Lt o L) : s8 T ≤ 8 * o := by
  have := h.bound ho hlt
  have h0 := this 0; have h1 := this 1; have h2 := this 2; have h3 := this 3; have h4 := this 4; have h5 := this 5; have h6 := this 6; have h7 := this 7
  unfold s8
  omega
theorem s8_up (T : Nat → Int) (l : List Tld) (t : Tld) (ht : t ∈ l) (h0 : 0 ≤ t.node ∧ t.node ≤ 7) : s8 T + 1 ≤ s8 (tb T l) := by
  have hb : ∀ a, T a ≤ tb T l a := fun a => by unfold tb; split <;> omega
  have h1 : ∀ a : Nat, t.node = (a : Int) → T a + 1 ≤ tb T l a := fun a e => by unfold tb; rw [inL_iff.2 ⟨t, ht, e⟩]; simp
  have g0 := hb 0; have g1 := hb 1; have g2 := hb 2; have g3 := hb 3; have g4 := hb 4; have g5 := hb 5; have g6 := hb 6; have g7 := hb 7
  unfold s8
  obtain ⟨a, ha⟩ : ∃ a : Nat, t.node = (a : Int) := ⟨t.node.toNat, by omega⟩
  have ha2 := h1 a ha
  have : a = 0 ∨ a = 1 ∨ a = 2 ∨ a = 3 ∨ a = 4 ∨ a = 5 ∨ a = 6 ∨ a = 7 := by omega
  rcases this with rfl | rfl | rfl | rfl | rfl | rfl | rfl | rfl <;> omega
/-- How many there are, node by node. -/
theorem count_nodes {L : List Tld} (h : St L) : ((List.range 8).filter fun a => inL L a).length = L.length := by
  have hp : (((List.range 8).filter fun a => inL L a).map (fun a : Nat => (a : Int))).Perm (L.map Tld.node) := by
    refine (List.perm_ext_iff_of_nodup ?_ h.nodup).2 fun x => ?_
    · rw [List.Nodup, List.pairwise_map]
      exact List.Pairwise.imp (fun h e => h (by omega)) (List.nodup_range.filter (fun a => inL L a))
    · rw [List.mem_map, List.mem_map]
      constructor
      · rintro ⟨a, ha, rfl⟩
        obtain ⟨_, h2⟩ := List.mem_filter.1 ha
        obtain ⟨t, ht, e⟩ := inL_iff.1 h2
        exact ⟨t, ht, e⟩
      · rintro ⟨t, ht, rfl⟩
        have hk := h.ok t ht
        refine ⟨t.node.toNat, List.mem_filter.2 ⟨List.mem_range.2 (by omega), inL_iff.2 ⟨t, ht, by omega⟩⟩, by omega⟩
  have := hp.length_eq
  simpa using this
theorem s8_ind (p : Nat → Bool) (o : Int) : s8 (fun a => if p a then o else 0) = (((List.range 8).filter p).length : Int) * o := by
  rw [← List.countP_eq_length_filter]
  have e : List.range 8 = [0, 1, 2, 3, 4, 5, 6, 7] := by decide
  rw [e]
  unfold s8
  simp only [List.countP_cons, List.countP_nil]
  cases p 0 <;> cases p 1 <;> cases p 2 <;> cases p 3 <;> cases p 4 <;> cases p 5 <;> cases p 6 <;> cases p 7 <;> simp <;> omega
/-- In the end each was told so often. -/
theorem Tol.all {o : Int} {S : List Tld} {T : Nat → Int} (h : Tol o S [] T) (hS : St S) : (∀ a, T a = 0 ∨ T a = o) ∧ s8 T = (S.length : Int) * o := by
  have hT : ∀ a, T a = if inL S a then o else 0 := fun a => by
    cases hs : inL S a with
    | false => rw [h.out a hs]; rfl
    | true => rw [h.gone a hs rfl]; rfl
  refine ⟨fun a => ?_, ?_⟩
  · rw [hT a]; split
    · exact .inr rfl
    · exact .inl rfl
  · have e : T = fun a => if inL S a then o else 0 := funext hT
    rw [e, s8_ind, count_nodes hS]
end Go.Proofs.YthndjhocmpelcaaGreat.Rum
