/- Chapter 5: two clocks side by side: their calls; one number more behind a row. Conditions: the rows lie in blocks of their own. -/
import Derived.Test.YtoikadgfbjjfiaaHpP
namespace Go.Proofs.Ytoikadgfbjjfiaa.Wat
open Go.RowKit Kit Ints
set_option linter.unusedVariables false
theorem setA (w : World) (ga gb : Nat) (A B : Option Addr) (L M : List Mom) (id at_ : Int) (h : Hid (Two w ga A L gb B M)) (q : Bool) (hq : Hid (q = okM id at_)) (N : List Mom) (hN : Hid (N = setLq id at_ L)) :
    Calls Try.prog 17 #[.pointer (some ⟨ga, 0, none⟩), .int .i64 id, .int .i64 at_] w fun e w' => e = .returned (.bool q) ∧ ∃ A', Hid (Two w' ga A' N gb B M) ∧ Hid (Wr w w' (Its ga A)) :=
  (set0 w ga A L id at_ (Hid.mk_ h.out.a) q hq N hN).mono fun e w' ⟨he, t⟩ => by
    obtain ⟨A', h1, h2⟩ := h.out.left t.out
    exact ⟨he, A', Hid.mk_ h1, Hid.mk_ h2⟩
theorem setB (w : World) (ga gb : Nat) (A B : Option Addr) (L M : List Mom) (id at_ : Int) (h : Hid (Two w ga A L gb B M)) (q : Bool) (hq : Hid (q = okM id at_)) (N : List Mom) (hN : Hid (N = setLq id at_ M)) :
    Calls Try.prog 17 #[.pointer (some ⟨gb, 0, none⟩), .int .i64 id, .int .i64 at_] w fun e w' => e = .returned (.bool q) ∧ ∃ B', Hid (Two w' ga A L gb B' N) ∧ Hid (Wr w w' (Its gb B)) :=
  (set0 w gb B M id at_ (Hid.mk_ h.out.b) q hq N hN).mono fun e w' ⟨he, t⟩ => by
    obtain ⟨A', h1, h2⟩ := h.out.right t.out
    exact ⟨he, A', Hid.mk_ h1, Hid.mk_ h2⟩
theorem cutA (w : World) (ga gb : Nat) (A B : Option Addr) (L M : List Mom) (id : Int) (h : Hid (Two w ga A L gb B M)) (q : Bool) (hq : Hid (q = has id L)) (N : List Mom) (hN : Hid (N = without id L)) :
    Calls Try.prog 20 #[.pointer (some ⟨ga, 0, none⟩), .int .i64 id] w fun e w' => e = .returned (.bool q) ∧ ∃ A', Hid (Two w' ga A' N gb B M) ∧ Hid (Wr w w' (Its ga A)) :=
  (cut0 w ga A L id (Hid.mk_ h.out.a) q hq N hN).mono fun e w' ⟨he, t⟩ => by
    obtain ⟨A', h1, h2⟩ := h.out.left t.out
    exact ⟨he, A', Hid.mk_ h1, Hid.mk_ h2⟩
theorem dueA (w : World) (ga gb : Nat) (A B : Option Addr) (L M : List Mom) (now : Int) (h : Hid (Two w ga A L gb B M)) (D : List Int) (hD : Hid (dueL now L = D)) (N : List Mom) (hN : Hid (restL now L = N)) :
    Calls Try.prog 18 #[.pointer (some ⟨ga, 0, none⟩), .int .i64 now] w fun e w' => ∃ P n c, e = .returned (.slice P n c) ∧ Hid (Own w' w.heap.size (.slice P n c) D) ∧ Hid (n = D.length) ∧ Hid (Two w' ga A N gb B M) ∧ Hid (Wr w w' (Its ga A)) :=
  (due0 w ga A L now (Hid.mk_ h.out.a) D hD N hN).mono fun e w' ⟨P, n, c, he, h1, h2, h3⟩ => ⟨P, n, c, he, h1, Hid.mk_ h1.out.row.1, Hid.mk_ (h.out.leftD h2.out h3.out), h3⟩
theorem dueB (w : World) (ga gb : Nat) (A B : Option Addr) (L M : List Mom) (now : Int) (h : Hid (Two w ga A L gb B M)) (D : List Int) (hD : Hid (dueL now M = D)) (N : List Mom) (hN : Hid (restL now M = N)) :
    Calls Try.prog 18 #[.pointer (some ⟨gb, 0, none⟩), .int .i64 now] w fun e w' => ∃ P n c, e = .returned (.slice P n c) ∧ Hid (Own w' w.heap.size (.slice P n c) D) ∧ Hid (n = D.length) ∧ Hid (Two w' ga A L gb B N) ∧ Hid (Wr w w' (Its gb B)) :=
  (due0 w gb B M now (Hid.mk_ h.out.b) D hD N hN).mono fun e w' ⟨P, n, c, he, h1, h2, h3⟩ => ⟨P, n, c, he, h1, Hid.mk_ h1.out.row.1, Hid.mk_ (h.out.rightD h2.out h3.out), h3⟩
theorem Two.wrA {w w' : World} {ga gb : Nat} {A B : Option Addr} {L M : List Mom} (h : Two w ga A L gb B M) (r : Wr w w' (Its ga A)) {z : Nat} (hz : z ≤ ga) : Below z w w' := h.a.wrBelow r hz
theorem Two.wrB {w w' : World} {ga gb : Nat} {A B : Option Addr} {L M : List Mom} (h : Two w ga A L gb B M) (r : Wr w w' (Its gb B)) {z : Nat} (hz : z ≤ gb) : Below z w w' := h.b.wrBelow r hz
theorem newTwo {w w1 w2 : World} {ga gb : Nat} (h1 : Clk w1 ga none []) (hg : w.heap.size ≤ ga) (h2 : Clk w2 gb none []) (hg2 : w1.heap.size ≤ gb) (b : Below w1.heap.size w1 w2) : Two w2 ga none [] gb none [] :=
  ⟨h1.below b, h2, fun k hk hn => by
    have h3 := h1.its k hk
    rcases hn with rfl | ⟨off, e⟩
    · omega
    · cases e⟩
/-- One more behind a row of one's own: it alone is written. -/
theorem Ints.run_one (w : World) (ty : TypeId) (base : Nat) (v : Value) (xs : List Int) (hown : Own w base v xs) (ad : Addr) (x : Int) (c : Nat) (hat : Row w (some ad) [x]) (hn : xs.length ≤ 1000000) (hbase : base ≤ w.heap.size) :
    ∃ v' w', (Builtin.append_ #[22, 22] ty #[v, .slice (some ad) 1 c]).run Try.prog w = .ok v' w' ∧ Own w' base v' (xs ++ [x]) ∧ w.grownBy w' v.ownBlock ∧ (v'.ownBlock = v.ownBlock ∨ ∀ k, v'.ownBlock = some k → w.heap.size ≤ k) := by
  obtain ⟨i0, hi0, hz0, hz1, hz2⟩ := Ints.info_parts info3
  unfold Own at hown
  obtain ⟨v', w', hr, h1, h2, h3⟩ := run_append_own (P := Try.prog) w base 22 ty 3 i0 _ 1 8 Try.underlying22 hi0 hz0 hz1 hz2 rfl (by decide) v xs.length (ints xs) hown ad 1 c (ints [x]) (by rw [ints_length]; rfl) hat.cells (ints_one [x]) (by unfold maxLen; omega) (by omega) hbase
  refine ⟨v', w', hr, ?_, h2, ?_⟩
  · unfold Own
    rw [ints_append, List.length_append]
    exact h1
  · rcases hown.2 with ⟨rfl, h0⟩ | ⟨g, cap, cur, rfl, hbg, hg, hnc, hcm, hcs, htake⟩
    · right
      have h4 := run_append_nil (P := Try.prog) w 22 ty 3 i0 _ Try.underlying22 hi0 hz0 ad 1 c (ints [x]) (by rw [ints_length, hz1]; rfl) hat.cells (by omega) (by omega) (by rw [hz2]; omega)
      rw [hr] at h4
      injection h4 with e1 e2
      subst e1
      intro k hk
      simp [Value.ownBlock] at hk
      omega
    · by_cases hroom : xs.length + 1 ≤ cap
      · left
        obtain ⟨w2, h4, _⟩ := run_append_fits (P := Try.prog) w base 22 ty 3 i0 1 Try.underlying22 hi0 hz1 g xs.length cap (ints xs) hown ad 1 c (ints [x]) (by rw [ints_length]; rfl) hat.cells (ints_one [x]) hroom
        rw [hr] at h4
        simp only [Result.ok.injEq] at h4
        rw [h4.1]
        simp only [Value.ownBlock]
      · right
        have holds : ∀ j u, (ints xs)[j]? = some u → w.cell? ((⟨g, 0, none⟩ : Addr).add j) = some u := World.ownsRow.cells hown (g := g) rfl
        have h4 := run_append_grow (P := Try.prog) w 22 ty 3 i0 _ Try.underlying22 hi0 hz0 ⟨g, 0, none⟩ xs.length cap (ints xs) (by rw [ints_length, hz1, Nat.mul_one]) holds ad 1 c (ints [x]) (by rw [ints_length, hz1]; rfl) hat.cells (by omega) (by omega) (by rw [hz2]; exact growslice_fits (by omega) (by omega))
        rw [hr] at h4
        injection h4 with e1 e2
        subst e1
        intro k hk
        simp [Value.ownBlock] at hk
        omega
/-- What an append of one leaves. -/
structure Ints.Got (w w' : World) (base : Nat) (v v' : Value) (xs : List Int) : Prop where
  own : Own w' base v' xs
  gb : w.grownBy w' v.ownBlock
  at_ : v'.ownBlock = v.ownBlock ∨ ∀ k, v'.ownBlock = some k → w.heap.size ≤ k
theorem Ints.wpList_one (w : World) {ops : Array Oper} {rest : List Oper} {o : Oper} {a : Act} {Q : Exit → Act → World → Prop} (hgd : o.guard = none) (s x : Operand)
    (ho : o.op = .call { callee := .builtin .append, args := #[s, x], argTypes := #[22, 22] })
    (base : Nat) (v : Value) (xs : List Int) (hs : a.eval s = v) (hown : Own w base v xs) (ad : Addr) (y : Int) (c : Nat) (hx : a.eval x = .slice (some ad) 1 c) (hat : Row w (some ad) [y]) (hn : xs.length ≤ 1000000) (hbase : base ≤ w.heap.size)
    (h : ∀ v' w', Hid (Got w w' base v v' (xs ++ [y])) → wpList Try.prog ops Q rest (a.put o.dst v') w') : wpList Try.prog ops Q (o :: rest) a w :=
  wpList_plain hgd fun _ hK => by
    obtain ⟨v', w', hr, h2, h3, h4⟩ := run_one w o.type base v xs hown ad y c hat hn hbase
    unfold Oper.wp execOp
    simp only [ho, resolve, invoke, builtin, Sem.run_bind, Sem.run_pure, Result.andThen_ok, List.map_toArray, List.map_cons, List.map_nil, hs, hx, hr]
    exact hK _ _ (h v' w' (Hid.mk_ ⟨h2, h3, h4⟩))
theorem Ints.Own.blk {w : World} {base : Nat} {v : Value} {xs : List Int} (h : Own w base v xs) : ∀ k, v.ownBlock = some k → base ≤ k ∧ k < w.heap.size := by
  unfold Own at h
  intro k hk
  exact World.ownsRow.lt h k hk
theorem Ints.Got.below {w w' : World} {base : Nat} {v v' : Value} {xs ys : List Int} (h : Got w w' base v v' xs) (ho : Own w base v ys) (hb : base ≤ w.heap.size) : Below base w w' :=
  (Below.refl _ _).grown h.gb hb (fun j hj => (ho.blk j hj).1)
theorem Ints.Got.row {w w' : World} {base : Nat} {v v' : Value} {xs ys : List Int} {A : Option Addr} (h : Got w w' base v v' xs) (hr : Row w A ys) (hn : ∀ b off, A = some ⟨b, off, none⟩ → v.ownBlock ≠ some b) : Row w' A ys :=
  hr.keep fun b off e hb => h.gb.block b hb (fun e2 => hn b off e e2.symm)
theorem Ints.Own.form2 {w : World} {base : Nat} {v : Value} {zs : List Int} (h : Own w base v zs) : ∃ A n c, v = .slice A n c ∧ n = zs.length := by
  obtain ⟨A, c, e, _⟩ := h.form
  exact ⟨A, _, c, e, rfl⟩
theorem Two.keepB {w w' : World} {ga gb : Nat} {A B : Option Addr} {L M : List Mom} (h : Two w ga A L gb B M) {z : Nat} (hb : Below z w w') (ha : ∀ k, Its ga A k → k < z) (hB : ∀ k, Its gb B k → k < z) : Two w' ga A L gb B M :=
  ⟨h.a.wr (Wr.ofB hb) (fun k hk hn => by have := ha k hk; omega), h.b.wr (Wr.ofB hb) (fun k hk hn => by have := hB k hk; omega), h.d⟩
theorem Ints.Got.sep {w w' : World} {base : Nat} {v v' : Value} {xs : List Int} {A : Option Addr} (h : Got w w' base v v' xs) (hn : ∀ b off, A = some ⟨b, off, none⟩ → v.ownBlock ≠ some b) (hlt : ∀ b off, A = some ⟨b, off, none⟩ → b < w.heap.size) : ∀ b off, A = some ⟨b, off, none⟩ → v'.ownBlock ≠ some b := fun b off e e2 => by
  rcases h.at_ with h1 | h1
  · rw [h1] at e2; exact hn b off e e2
  · have := h1 b e2; have := hlt b off e; omega
end Go.Proofs.Ytoikadgfbjjfiaa.Wat
