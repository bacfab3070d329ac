/- Rows of one's own, whatever their elements: kept, read, one more behind them: it alone is written. Conditions: the row lies in a block of its own. -/
import Derived.Test.YtoikadgfbjjfiaaKit
import Derived.WalkKit
import Derived.OwnWalk
import Derived.Laws.OwnMore
namespace Go.Proofs.Ytoikadgfbjjfiaa.Rowz
open Go.RowKit Kit
set_option linter.unusedVariables false
section
variable {P : Program}
theorem app1 (w : World) (T E ty : TypeId) (i0 : TypeInfo) (z : Value) (s bs : Nat) (hT : P.underlying T = some (.slice E)) (hi : P.info? E = some i0) (hz0 : i0.zero = some z) (hz1 : i0.size = s) (hz2 : i0.bytes = bs) (hzs : z.cells.size = s) (hs : 0 < s)
    (base : Nat) (v : Value) (n : Nat) (xs : List Value) (hown : w.ownsRow base E s v n xs) (ad : Addr) (c : Nat) (ys : List Value) (hl : ys.length = s) (hat : ∀ j u, ys[j]? = some u → w.cell? (ad.add j) = some u) (h1 : ∀ u ∈ ys, u.oneCell' = true)
    (hn : n ≤ 100000) (hbs : bs ≤ 10000) (hbase : base ≤ w.heap.size) :
    ∃ v' w', (Builtin.append_ #[T, T] ty #[v, .slice (some ad) 1 c]).run P w = .ok v' w' ∧ w'.ownsRow base E s v' (n + 1) (xs ++ ys) ∧ w.grownBy w' v.ownBlock ∧ (v'.ownBlock = v.ownBlock ∨ ∀ k, v'.ownBlock = some k → w.heap.size ≤ k) := by
  have hb : (n + 1) * bs ≤ 140737488355328 := Nat.le_trans (Nat.mul_le_mul (Nat.succ_le_succ hn) hbs) (by omega)
  obtain ⟨v', w', hr, h2, h3, h4⟩ := run_append_own (P := P) w base T ty E i0 z s bs hT hi hz0 hz1 hz2 hzs hs v n xs hown ad 1 c ys (by rw [hl, Nat.one_mul]) hat h1 (by unfold maxLen; omega) hb hbase
  refine ⟨v', w', hr, h2, h3, ?_⟩
  rcases hown.2 with ⟨rfl, h0⟩ | ⟨g, cap, cur, rfl, hbg, hg, hnc, hcm, hcs, htake⟩
  · right
    have h5 := run_append_nil (P := P) w T ty E i0 z hT hi hz0 ad 1 c ys (by rw [hl, hz1, Nat.one_mul]) hat (by omega) (by omega) (by rw [hz2]; omega)
    rw [hr] at h5
    injection h5 with e1 e2
    subst e1
    intro k hk
    simp [Value.ownBlock] at hk
    omega
  · by_cases hroom : n + 1 ≤ cap
    · left
      obtain ⟨w2, h5, _⟩ := run_append_fits (P := P) w base T ty E i0 s hT hi hz1 g n cap xs hown ad 1 c ys (by rw [hl, Nat.one_mul]) hat h1 hroom
      rw [hr] at h5
      simp only [Result.ok.injEq] at h5
      rw [h5.1]
      simp only [Value.ownBlock]
    · right
      have holds : ∀ j u, xs[j]? = some u → w.cell? ((⟨g, 0, none⟩ : Addr).add j) = some u := World.ownsRow.cells hown (g := g) rfl
      have h5 := run_append_grow (P := P) w T ty E i0 z hT hi hz0 ⟨g, 0, none⟩ n cap xs (by rw [hown.1, hz1]) holds ad 1 c ys (by rw [hl, hz1, Nat.one_mul]) hat (by omega) (by omega) (by rw [hz2]; exact growslice_fits (by omega) hb)
      rw [hr] at h5
      injection h5 with e1 e2
      subst e1
      intro k hk
      simp [Value.ownBlock] at hk
      omega
/-- What an append of one leaves. -/
structure Got (w w' : World) (base : Nat) (E : TypeId) (s : Nat) (v v' : Value) (n : Nat) (xs : List Value) : Prop where
  own : w'.ownsRow base E s v' n xs
  gb : w.grownBy w' v.ownBlock
  at_ : v'.ownBlock = v.ownBlock ∨ ∀ k, v'.ownBlock = some k → w.heap.size ≤ k
theorem wpList_app1 (w : World) {ops : Array Oper} {rest : List Oper} {o : Oper} {a : Act} {Q : Exit → Act → World → Prop} (hgd : o.guard = none) (x y : Operand) (T E : TypeId)
    (ho : o.op = .call { callee := .builtin .append, args := #[x, y], argTypes := #[T, T] })
    (i0 : TypeInfo) (z : Value) (s bs : Nat) (hT : P.underlying T = some (.slice E)) (hi : P.info? E = some i0) (hz0 : i0.zero = some z) (hz1 : i0.size = s) (hz2 : i0.bytes = bs) (hzs : z.cells.size = s) (hs : 0 < s)
    (base : Nat) (v : Value) (n : Nat) (xs : List Value) (hx : a.eval x = v) (hown : w.ownsRow base E s v n xs) (ad : Addr) (c : Nat) (ys : List Value) (hy : a.eval y = .slice (some ad) 1 c) (hl : ys.length = s) (hat : ∀ j u, ys[j]? = some u → w.cell? (ad.add j) = some u) (h1 : ∀ u ∈ ys, u.oneCell' = true)
    (hn : n ≤ 100000) (hbs : bs ≤ 10000) (hbase : base ≤ w.heap.size)
    (h : ∀ v' w', Hid (Got w w' base E s v v' (n + 1) (xs ++ ys)) → wpList P ops Q rest (a.put o.dst v') w') : wpList P ops Q (o :: rest) a w :=
  wpList_plain hgd fun _ hK => by
    obtain ⟨v', w', hr, h2, h3, h4⟩ := app1 w T E o.type i0 z s bs hT hi hz0 hz1 hz2 hzs hs base v n xs hown ad c ys hl hat h1 hn hbs hbase
    unfold Oper.wp execOp
    simp only [ho, resolve, invoke, builtin, Sem.run_bind, Sem.run_pure, Result.andThen_ok, List.map_toArray, List.map_cons, List.map_nil, hx, hy, hr]
    exact hK _ _ (h v' w' ⟨h2, h3, h4⟩)
theorem blk {w : World} {base : Nat} {E : TypeId} {s : Nat} {v : Value} {n : Nat} {xs : List Value} (h : w.ownsRow base E s v n xs) : ∀ k, v.ownBlock = some k → base ≤ k ∧ k < w.heap.size := fun k hk => World.ownsRow.lt h k hk
theorem form {w : World} {base : Nat} {E : TypeId} {s : Nat} {v : Value} {n : Nat} {xs : List Value} (h : w.ownsRow base E s v n xs) : ∃ A c, v = .slice A n c ∧ n ≤ c ∧ c ≤ 9223372036854775807 ∧ ((A = none ∧ c = 0 ∧ n = 0) ∨ ∃ b, A = some ⟨b, 0, none⟩ ∧ base ≤ b ∧ b < w.heap.size) := by
  rcases h.2 with ⟨rfl, rfl⟩ | ⟨g, cap, cur, h1, h3, h4, h5, h6, _⟩
  · exact ⟨none, 0, rfl, Nat.le_refl _, by omega, .inl ⟨rfl, rfl, rfl⟩⟩
  · exact ⟨_, cap, h1, h5, by unfold maxLen at h6; omega, .inr ⟨g, rfl, h3, (Array.getElem?_eq_some_iff.1 h4).1⟩⟩
/-- A row is kept where its own block is. -/
theorem keep {w w' : World} {base : Nat} {E : TypeId} {s : Nat} {v : Value} {n : Nat} {xs : List Value} (h : w.ownsRow base E s v n xs) (hb : ∀ k, v.ownBlock = some k → k < w.heap.size → w'.heap[k]? = w.heap[k]?) : w'.ownsRow base E s v n xs := by
  refine ⟨h.1, ?_⟩
  rcases h.2 with h1 | ⟨g, cap, cur, rfl, h3, h4, h5⟩
  · exact .inl h1
  · exact .inr ⟨g, cap, cur, rfl, h3, (hb g rfl (Array.getElem?_eq_some_iff.1 h4).1).trans h4, h5⟩
theorem below {w w' : World} {base : Nat} {E : TypeId} {s : Nat} {v : Value} {n : Nat} {xs : List Value} (h : w.ownsRow base E s v n xs) (hb : Below w.heap.size w w') : w'.ownsRow base E s v n xs := keep h fun k _ hk => hb.block k hk
theorem nil (w : World) (base : Nat) (E : TypeId) (s : Nat) : w.ownsRow base E s (.slice none 0 0) 0 [] := World.ownsRow_nil _ _ _ _
theorem Got.below {w w' : World} {base : Nat} {E : TypeId} {s : Nat} {v v' : Value} {n m : Nat} {xs ys : List Value} (h : Got w w' base E s v v' n xs) (ho : w.ownsRow base E s v m ys) (hb : base ≤ w.heap.size) : Below base w w' :=
  (Below.refl _ _).grown h.gb hb (fun j hj => (blk ho j hj).1)
/-- Another row, apart from it, stays. -/
theorem Got.other {w w' : World} {base base2 : Nat} {E F : TypeId} {s t : Nat} {v v' u : Value} {n m : Nat} {xs ys : List Value} (h : Got w w' base E s v v' n xs) (ho : w.ownsRow base2 F t u m ys) (hd : ∀ k, v.ownBlock = some k → u.ownBlock ≠ some k) : w'.ownsRow base2 F t u m ys :=
  keep ho fun k hk hlt => h.gb.block k hlt (fun e => hd k e.symm hk)
theorem Got.apart {w w' : World} {base base2 : Nat} {E F : TypeId} {s t : Nat} {v v' u : Value} {n m : Nat} {xs ys : List Value} (h : Got w w' base E s v v' n xs) (ho : w.ownsRow base2 F t u m ys) (hd : ∀ k, v.ownBlock = some k → u.ownBlock ≠ some k) : ∀ k, v'.ownBlock = some k → u.ownBlock ≠ some k := fun k hk hu => by
  rcases h.at_ with h1 | h1
  · rw [h1] at hk; exact hd k hk hu
  · have := h1 k hk; have := (blk ho k hu).2; omega
theorem info_parts {i : Option TypeInfo} {z : Value} {size bytes : Nat} (h : i.map (fun i => (i.zero, i.size, i.bytes)) = some (some z, size, bytes)) : ∃ i0, i = some i0 ∧ i0.zero = some z ∧ i0.size = size ∧ i0.bytes = bytes := by
  cases i with
  | none => cases h
  | some i0 => simp at h; exact ⟨i0, rfl, h.1, h.2.1, h.2.2⟩
end
end Go.Proofs.Ytoikadgfbjjfiaa.Rowz
