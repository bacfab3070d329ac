/- Chapter 5: the document's own clock: how it lies in memory; a row that is built anew. Conditions: the rows lie in memory. -/
import Derived.Test.YthndjhocmpelcaaGreatGc
namespace Go.Proofs.YthndjhocmpelcaaGreat.Wat
open Go.RowKit Kit Ints
set_option linter.unusedVariables false
/-- The moments L lie from A on. -/
def MRow (w : World) (A : Option Addr) (L : List Mom) : Prop := ∀ (j : Nat) (m : Mom), L[j]? = some m → ∃ b off, A = some ⟨b, off, none⟩ ∧
  w.cell? ⟨b, off + j * 2, none⟩ = some (.int .i64 m.id) ∧ w.cell? ⟨b, off + j * 2 + 1, none⟩ = some (.int .i64 m.at_)
theorem MRow.nil (w : World) (A : Option Addr) : MRow w A [] := fun j x h => by simp at h
theorem MRow.keep {w w' : World} {A : Option Addr} {L : List Mom} (h : MRow w A L) (hk : ∀ b off, A = some ⟨b, off, none⟩ → b < w.heap.size → w'.heap[b]? = w.heap[b]?) : MRow w' A L := by
  intro j x hx
  obtain ⟨b, off, rfl, h1, h2⟩ := h j x hx
  have := hk b off rfl (World.block_lt_of_cell? w _ h1)
  refine ⟨b, off, rfl, ?_, ?_⟩
  · rw [← h1]; simp [World.cell?, this]
  · rw [← h2]; simp [World.cell?, this]
theorem MRow.below {w w' : World} {A : Option Addr} {L : List Mom} (h : MRow w A L) (hb : Below w.heap.size w w') : MRow w' A L := h.keep fun b _ _ hlt => hb.block b hlt
theorem MRow.take {w : World} {A : Option Addr} {L : List Mom} (h : MRow w A L) (k : Nat) : MRow w A (L.take k) := fun j m hj => h j m (by
  rw [List.getElem?_take] at hj
  split at hj
  · exact hj
  · cases hj)
theorem MRow.drop {w : World} {b off : Nat} {L : List Mom} (h : MRow w (some ⟨b, off, none⟩) L) (k : Nat) : MRow w (some ⟨b, off + k * 2, none⟩) (L.drop k) := fun j m hj => by
  rw [List.getElem?_drop] at hj
  obtain ⟨b', off', e, h1, h2⟩ := h (k + j) m hj
  injection e with e
  injection e with e1 e2
  subst e1 e2
  refine ⟨b, off + k * 2, rfl, ?_, ?_⟩
  · rw [← h1]; congr 2; omega
  · rw [← h2]; congr 2; omega
theorem MRow.cells {w : World} {ad : Addr} {L : List Mom} (h : MRow w (some ad) L) : ∀ j u, (cellsM L)[j]? = some u → w.cell? (ad.add j) = some u := by
  intro j u hu
  have hj := (List.getElem?_eq_some_iff.1 hu).1
  rw [cells_len] at hj
  obtain ⟨m, hm⟩ : ∃ m, L[j / 2]? = some m := ⟨_, List.getElem?_eq_getElem (by omega)⟩
  obtain ⟨b, off, e, h1, h2⟩ := h (j / 2) m hm
  obtain ⟨c1, c2⟩ := cells_get L (j / 2) m hm
  injection e with e
  subst e
  rw [Addr.add_lit]
  have : j = j / 2 * 2 ∨ j = j / 2 * 2 + 1 := by omega
  rcases this with e | e
  · rw [← e] at h1 c1
    rw [h1, ← hu, c1]
  · rw [← e] at c2
    rw [← hu, c2, ← h2]
    congr 2
    omega
theorem MRow.empty {w : World} {L : List Mom} (h : MRow w none L) : L = [] := by
  cases L with
  | nil => rfl
  | cons c l =>
    obtain ⟨b, off, ha, _⟩ := h 0 c rfl
    cases ha
/-- v is a row of the document's own moments. -/
def OwnR (w : World) (base : Nat) (v : Value) (hs : List Mom) : Prop := w.ownsRow base 130 2 v hs.length (cellsM hs)
theorem OwnR.nil (w : World) (base : Nat) : OwnR w base (.slice none 0 0) [] := World.ownsRow_nil _ _ _ _
theorem OwnR.keep {w w' : World} {base : Nat} {v : Value} {hs : List Mom} (h : OwnR w base v hs) (hb : Below w.heap.size w w') : OwnR w' base v hs := by
  refine World.ownsRow.kept (row := none) h ⟨hb.os, hb.tape, hb.output, hb.size, fun k hk _ => hb.block k hk⟩ ?_
  cases v.ownBlock
  · exact .inl rfl
  · exact .inr (by simp)
theorem info87 : (Tryz.prog.info? 130).map (fun i => (i.zero, i.size, i.bytes)) = some (some (.agg #[.int .i64 0, .int .i64 0]), 2, 16) := by kernel_rfl
theorem run_noneR (w : World) (ty : TypeId) (i0 : TypeInfo) (hi : Tryz.prog.info? 130 = some i0) (base n c : Nat) (v : Value) (xs : List Value) (hown : w.ownsRow base 130 2 v n xs) :
    (Builtin.append_ #[84, 84] ty #[v, .slice none 0 c]).run Tryz.prog w = .ok v w := by
  rcases hown.2 with ⟨rfl, rfl⟩ | ⟨g, cap, cur, rfl, hbg, hg, hnc, hcm, hcs, htake⟩
  · simp [Builtin.append_, run_underlying Tryz.underlying84, sizeOf, typeInfo, hi, Builtin.lenOf, Builtin.firstCells]
  · simp [Builtin.append_, run_underlying Tryz.underlying84, sizeOf, typeInfo, hi, Builtin.lenOf, Builtin.firstCells, loadCells, hnc, storeCells]
theorem run_appR (w : World) (ty : TypeId) (base : Nat) (v : Value) (xs : List Mom) (hown : OwnR w base v xs) (A : Option Addr) (ls : List Mom) (m c : Nat) (hm : m = ls.length) (hat : MRow w A ls) (hn : xs.length + ls.length ≤ 1000000) (hbase : base ≤ w.heap.size) :
    ∃ v' w', (Builtin.append_ #[84, 84] ty #[v, .slice A m c]).run Tryz.prog w = .ok v' w' ∧ OwnR w' base v' (xs ++ ls) ∧ Below base w w' := by
  obtain ⟨i0, hi0, hz0, hz1, hz2⟩ := info_parts info87
  subst hm
  cases A with
  | none =>
    obtain rfl := hat.empty
    refine ⟨v, w, run_noneR w ty i0 hi0 base _ c v _ hown, ?_, Below.refl _ _⟩
    rw [List.append_nil]; exact hown
  | some ad =>
    obtain ⟨v', w', hr, h1, h2, _⟩ := run_append_own (P := Tryz.prog) w base 84 ty 130 i0 _ 2 16 Tryz.underlying84 hi0 hz0 hz1 hz2 rfl (by decide) v xs.length (cellsM xs) hown ad ls.length c (cellsM ls) (by rw [cells_len]) hat.cells (cells_one ls) (by unfold maxLen; omega) (by omega) hbase
    refine ⟨v', w', hr, ?_, (Below.refl _ _).grown h2 hbase (fun j hj => (World.ownsRow.lt hown j hj).1)⟩
    unfold OwnR
    rw [cells_append, List.length_append]
    exact h1
theorem step_appR (w : World) {ops : Array Oper} {o : Oper} {a : Act} {K : Act → World → Prop} {Q : Exit → Act → World → Prop} {E : Prop} (hgd : o.guard = none) (s x : Operand)
    (ho : o.op = .call { callee := .builtin .append, args := #[s, x], argTypes := #[84, 84] })
    (base : Nat) (v : Value) (xs : List Mom) (hs : a.eval s = v) (hown : OwnR w base v xs) (A : Option Addr) (ls : List Mom) (m c : Nat) (hx : a.eval x = .slice A m c) (hm : m = ls.length) (hat : MRow w A ls) (hn : xs.length + ls.length ≤ 1000000) (hbase : base ≤ w.heap.size)
    (h : ∀ v' w', OwnR w' base v' (xs ++ ls) → Below base w w' → K (a.put o.dst v') w') :
    if Region.wanted o (yielded ops a.tmps) = true then Oper.wp Tryz.prog o a w K Q else E := by
  have hw : Region.wanted o (yielded ops a.tmps) = true := by simp [Region.wanted, hgd]
  rw [if_pos hw]
  obtain ⟨v', w', hr, h2, h3⟩ := run_appR w o.type base v xs hown A ls m c hm hat hn hbase
  unfold Oper.wp execOp
  simp only [ho, resolve, invoke, builtin, Sem.run_bind, Sem.run_pure, Result.andThen_ok, List.map_toArray, List.map_cons, List.map_nil, hs, hx, hr]
  exact h v' w' h2 h3
/-- The document's own clock at g. -/
structure RefS (w : World) (g : Nat) (A : Option Addr) (n c : Nat) (L : List Mom) : Prop where
  cell : w.cell? ⟨g, 0, none⟩ = some (.slice A n c)
  fr : w.frozen? ⟨g, 0, none⟩ = false
  len : n = L.length
  cap : n ≤ c ∧ c ≤ 9223372036854775807
  row : MRow w A L
  blk : (A = none ∧ c = 0) ∨ ∃ b off, A = some ⟨b, off, none⟩ ∧ g < b ∧ b < w.heap.size
theorem RefS.lt {w : World} {g : Nat} {A : Option Addr} {n c : Nat} {L : List Mom} (h : RefS w g A n c L) : g < w.heap.size := World.block_lt_of_cell? w _ h.cell
theorem RefS.wr {w w' : World} {S : Nat → Prop} {g : Nat} {A : Option Addr} {n c : Nat} {L : List Mom} (h : RefS w g A n c L) (hw : Wr w w' S) (hd : ∀ k, Its g A k → ¬ S k) : RefS w' g A n c L :=
  ⟨hw.cell h.cell (hd g (.inl rfl)), (hw.frozen h.lt (hd g (.inl rfl))).trans h.fr, h.len, h.cap, h.row.keep fun b off e hb => hw.block b hb (hd b (.inr ⟨off, e⟩)), by
    rcases h.blk with h1 | ⟨b, off, h1, h2, h3⟩
    · exact .inl h1
    · exact .inr ⟨b, off, h1, h2, Nat.lt_of_lt_of_le h3 hw.size⟩⟩
def Ref (w : World) (g : Nat) (A : Option Addr) (L : List Mom) : Prop := ∃ n c, RefS w g A n c L
theorem Ref.wr {w w' : World} {S : Nat → Prop} {g : Nat} {A : Option Addr} {L : List Mom} (h : Ref w g A L) (hw : Wr w w' S) (hd : ∀ k, Its g A k → ¬ S k) : Ref w' g A L := by
  obtain ⟨n, c, h⟩ := h
  exact ⟨n, c, h.wr hw hd⟩
theorem Ref.below {w w' : World} {g : Nat} {A : Option Addr} {L : List Mom} (h : Ref w g A L) (hw : Below w.heap.size w w') : Ref w' g A L := h.wr (Wr.of_below hw (fun _ => False)) (fun k _ h => h)
theorem RefS.its {w : World} {g : Nat} {A : Option Addr} {n c : Nat} {L : List Mom} (h : RefS w g A n c L) : ∀ k, Its g A k → g ≤ k ∧ k < w.heap.size := by
  rintro k (rfl | ⟨off, rfl⟩)
  · exact ⟨Nat.le_refl _, h.lt⟩
  · rcases h.blk with ⟨h1, _⟩ | ⟨b, o, h1, h2, h3⟩
    · cases h1
    · injection h1 with h1
      injection h1 with h1
      subst h1
      omega
theorem Ref.its {w : World} {g : Nat} {A : Option Addr} {L : List Mom} (h : Ref w g A L) : ∀ k, Its g A k → g ≤ k ∧ k < w.heap.size := by
  obtain ⟨n, c, h⟩ := h
  exact h.its
/-- The document's clock at g is turned to M; nothing else is. -/
def RTurn (w w' : World) (g : Nat) (A : Option Addr) (M : List Mom) : Prop := ∃ A', Ref w' g A' M ∧ (∀ k, Its g A' k → Its g A k ∨ w.heap.size ≤ k) ∧ Wr w w' (fun k => k = g)
theorem RTurn.of_below {w w' : World} {g : Nat} {A : Option Addr} {L : List Mom} (h : Ref w g A L) (hb : Below w.heap.size w w') : RTurn w w' g A L :=
  ⟨A, h.below hb, fun k hk => .inl hk, Wr.of_below hb _⟩
theorem RTurn.trans {w w1 w2 : World} {g : Nat} {A : Option Addr} {L M : List Mom} (h : RTurn w w1 g A L) (k : ∀ A', Ref w1 g A' L → RTurn w1 w2 g A' M) : RTurn w w2 g A M := by
  obtain ⟨A1, h1, h2, h3⟩ := h
  obtain ⟨A2, k1, k2, k3⟩ := k A1 h1
  exact ⟨A2, k1, fun i hi => (k2 i hi).elim (h2 i) (fun h => .inr (Nat.le_trans h3.size h)), h3.then_ k3 (fun i hi => .inl hi)⟩
theorem OwnR.form {w : World} {base : Nat} {v : Value} {hs : List Mom} (h : OwnR w base v hs) : ∃ A c, v = .slice A hs.length c ∧ hs.length ≤ c ∧ c ≤ maxLen ∧ MRow w A hs ∧ ((A = none ∧ c = 0) ∨ ∃ b, A = some ⟨b, 0, none⟩ ∧ base ≤ b ∧ b < w.heap.size) := by
  have h0 := h
  unfold OwnR at h
  rcases h.2 with ⟨rfl, h2⟩ | ⟨g, cap, cur, h1, h3, h4, h5, h6, h7, h8⟩
  · obtain rfl := List.eq_nil_of_length_eq_zero h2
    exact ⟨none, 0, rfl, Nat.le_refl _, by unfold maxLen; omega, MRow.nil _ _, .inl ⟨rfl, rfl⟩⟩
  · refine ⟨_, cap, h1, h5, h6, fun j m hj => ?_, .inr ⟨g, rfl, h3, (Array.getElem?_eq_some_iff.1 h4).1⟩⟩
    have hlt := (List.getElem?_eq_some_iff.1 hj).1
    obtain ⟨c0, c1⟩ := cells_get hs j m hj
    rw [h1] at h
    refine ⟨g, 0, rfl, ?_, ?_⟩
    · rw [Nat.zero_add, World.ownsRow.cellAt h (j * 2) (by omega), c0]
    · rw [Nat.zero_add, World.ownsRow.cellAt h (j * 2 + 1) (by omega), c1]
attribute [irreducible] OwnR
/-- A new row is written. -/
theorem RTurn.put {w w1 : World} {g : Nat} {A : Option Addr} {v v' : Value} {M : List Mom} (h1 : w1.cell? ⟨g, 0, none⟩ = some v) (hf : w1.frozen? ⟨g, 0, none⟩ = false) (ho : OwnR w1 w.heap.size v' M) (hg : g < w.heap.size) (hb : Below w.heap.size w w1) : RTurn w (w1.setCell ⟨g, 0, none⟩ v') g A M := by
  obtain ⟨A', c, rfl, h2, h3, h4, h5⟩ := ho.form
  refine ⟨A', ⟨_, c, World.cell?_setCell_same _ _ _ h1, (World.frozen?_setCell _ _ _ _).trans hf, rfl, ⟨h2, by unfold maxLen at h3; omega⟩, h4.keep fun b off e hbb => Below.heap_setCell _ _ _ _ (by
    rcases h5 with ⟨rfl, _⟩ | ⟨b', rfl, h6, _⟩
    · cases e
    · injection e with e; injection e with e; simp only; omega), ?_⟩, fun k hk => ?_, ?_⟩
  · rcases h5 with h6 | ⟨b', rfl, h6, h7⟩
    · exact .inl h6
    · exact .inr ⟨b', 0, rfl, by omega, by simp [World.setCell]; exact h7⟩
  · rcases hk with rfl | ⟨off, e⟩
    · exact .inl (.inl rfl)
    · rcases h5 with ⟨rfl, _⟩ | ⟨b', rfl, h6, _⟩
      · cases e
      · injection e with e; injection e with e
        exact .inr (by omega)
  · exact (Wr.of_below hb (fun k => k = g)).then_ (Wr.set w1 g 0 _) (fun i hi => .inl hi)
end Go.Proofs.YthndjhocmpelcaaGreat.Wat
