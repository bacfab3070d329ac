/- Chapter 4: rows of one's own, appended to; a copy of a row; whom there are. Conditions: the rows lie in memory. -/
import Derived.Test.YthobimdnjggkfaaPrA
import Derived.Lib.SliceRun
import Derived.Deep.Cut
import Derived.Deep.RegionHeld3
namespace Go.Proofs.Ythobimdnjggkfaa.Prb
open Go.RowKit Kit
set_option linter.unusedVariables false
theorem info_parts {i : Option TypeInfo} {z : Value} {size bytes : Nat} (h : i.map (fun i => (i.zero, i.size, i.bytes)) = some (some z, size, bytes)) : ∃ i0, i = some i0 ∧ i0.zero = some z ∧ i0.size = size ∧ i0.bytes = bytes := by
  cases i with
  | none => cases h
  | some i0 => simp at h; exact ⟨i0, rfl, h.1, h.2.1, h.2.2⟩
theorem info3 : (Try.prog.info? 3).map (fun i => (i.zero, i.size, i.bytes)) = some (some (.int .i64 0), 1, 8) := by kernel_rfl
def ints (zs : List Int) : List Value := zs.map (Value.int .i64)
theorem ints_length (zs : List Int) : (ints zs).length = zs.length := by simp [ints]
theorem ints_one (zs : List Int) : ∀ u ∈ ints zs, u.oneCell' = true := by
  intro u hu
  obtain ⟨x, _, rfl⟩ := List.mem_map.1 hu
  rfl
theorem ints_append (xs ys : List Int) : ints (xs ++ ys) = ints xs ++ ints ys := by simp [ints]
/-- v is a row of one's own that holds zs. -/
def Own (w : World) (base : Nat) (v : Value) (zs : List Int) : Prop := w.ownsRow base 3 1 v zs.length (ints zs)
theorem Own.form {w : World} {base : Nat} {v : Value} {zs : List Int} (h : Own w base v zs) : ∃ A c, v = .slice A zs.length c ∧ zs.length ≤ c ∧ c ≤ maxLen := by
  rcases h.2 with ⟨rfl, h0⟩ | ⟨g, cap, cur, rfl, _, _, h1, h2, _⟩
  · exact ⟨none, 0, by rw [h0], by omega, by unfold maxLen; omega⟩
  · exact ⟨_, _, rfl, h1, h2⟩
theorem Own.row {w : World} {base : Nat} {A : Option Addr} {n c : Nat} {zs : List Int} (h : Own w base (.slice A n c) zs) : n = zs.length ∧ Row w A zs ∧ (A = none → c = 0) := by
  have h0 := h
  rcases h.2 with ⟨h1, h2⟩ | ⟨g, cap, cur, h1, h3, h4, h5, h6, h7, h8⟩
  · injection h1 with e1 e2 e3
    obtain rfl := List.eq_nil_of_length_eq_zero h2
    exact ⟨e2, Row.nil _ _, fun _ => e3⟩
  · injection h1 with e1 e2 e3
    subst e1 e2 e3
    refine ⟨rfl, fun j x hx => ⟨g, 0, rfl, ?_⟩, fun h => by cases h⟩
    have hj := (List.getElem?_eq_some_iff.1 hx).1
    have := World.ownsRow.cellAt h0 j (by omega)
    rw [Nat.zero_add, this, ints, List.getElem?_map, hx]
    rfl
theorem Own.keep {w w' : World} {base : Nat} {v : Value} {zs : List Int} (h : Own w base v zs) (hb : Below w.heap.size w w') : Own w' base v zs := by
  refine World.ownsRow.kept (row := none) h ⟨hb.os, hb.tape, hb.output, hb.size, fun k hk _ => hb.block k hk⟩ ?_
  cases v.ownBlock
  · exact .inl rfl
  · exact .inr (by simp)
theorem Own.nil (w : World) (base : Nat) : Own w base (.slice none 0 0) [] := World.ownsRow_nil _ _ _ _
theorem Own.made (w : World) (base : Nat) (hb : base ≤ w.heap.size) (g : Nat) (hg : base ≤ g) (h : w.heap[g]? = some (.cells #[] 3 (0, 0))) : Own w base (.slice (some ⟨g, 0, none⟩) 0 0) [] :=
  ⟨rfl, .inr ⟨g, 0, #[], rfl, hg, h, Nat.le_refl _, by unfold maxLen; omega, rfl, rfl⟩⟩
theorem Own.mono {w : World} {base base' : Nat} {v : Value} {zs : List Int} (h : Own w base v zs) (hb : base' ≤ base) : Own w base' v zs := by
  refine ⟨h.1, ?_⟩
  rcases h.2 with h1 | ⟨g, cap, cur, h1, h3, h4⟩
  · exact .inl h1
  · exact .inr ⟨g, cap, cur, h1, Nat.le_trans hb h3, h4⟩
theorem Row.cells {w : World} {ad : Addr} {zs : List Int} (h : Row w (some ad) zs) : ∀ j u, (ints zs)[j]? = some u → w.cell? (ad.add j) = some u := by
  intro j u hu
  rw [ints, List.getElem?_map] at hu
  cases hz : zs[j]? with
  | none => rw [hz] at hu; cases hu
  | some x =>
    rw [hz] at hu
    obtain ⟨b, off, e, hc⟩ := h j x hz
    injection e with e
    subst e
    rw [Addr.add_lit, hc]
    exact hu
theorem Row.empty {w : World} {zs : List Int} (h : Row w none zs) : zs = [] := by
  cases zs with
  | nil => rfl
  | cons c l =>
    obtain ⟨b, off, ha, _⟩ := h 0 c rfl
    cases ha
theorem run_none (w : World) (ty : TypeId) (i0 : TypeInfo) (hi : Try.prog.info? 3 = some i0) (base n c : Nat) (v : Value) (xs : List Value) (hown : w.ownsRow base 3 1 v n xs) :
    (Builtin.append_ #[22, 22] ty #[v, .slice none 0 c]).run Try.prog w = .ok v w := by
  rcases hown.2 with ⟨rfl, rfl⟩ | ⟨g, cap, cur, rfl, hbg, hg, hnc, hcm, hcs, htake⟩
  · simp [Builtin.append_, run_underlying Try.underlying22, sizeOf, typeInfo, hi, Builtin.lenOf, Builtin.firstCells]
  · simp [Builtin.append_, run_underlying Try.underlying22, sizeOf, typeInfo, hi, Builtin.lenOf, Builtin.firstCells, loadCells, hnc, storeCells]
theorem run_app (w : World) (ty : TypeId) (base : Nat) (v : Value) (xs : List Int) (hown : Own w base v xs) (A : Option Addr) (ls : List Int) (m c : Nat) (hm : m = ls.length) (hat : Row w A ls) (hn : xs.length + ls.length ≤ 1000) (hbase : base ≤ w.heap.size) :
    ∃ v' w', (Builtin.append_ #[22, 22] ty #[v, .slice A m c]).run Try.prog w = .ok v' w' ∧ Own w' base v' (xs ++ ls) ∧ Below base w w' := by
  obtain ⟨i0, hi0, hz0, hz1, hz2⟩ := info_parts info3
  subst hm
  cases A with
  | none =>
    obtain rfl := hat.empty
    refine ⟨v, w, run_none w ty i0 hi0 base _ c v _ hown, ?_, Below.refl _ _⟩
    rw [List.append_nil]; exact hown
  | some ad =>
    obtain ⟨v', w', hr, h1, h2, _⟩ := run_append_own (P := Try.prog) w base 22 ty 3 i0 _ 1 8 Try.underlying22 hi0 hz0 hz1 hz2 rfl (by decide) v xs.length (ints xs) hown ad ls.length c (ints ls) (by rw [ints_length, Nat.mul_one]) hat.cells (ints_one ls) (by unfold maxLen; omega) (by omega) hbase
    refine ⟨v', w', hr, ?_, (Below.refl _ _).grown h2 hbase (fun j hj => (World.ownsRow.lt hown j hj).1)⟩
    unfold Own
    rw [ints_append, List.length_append]
    exact h1
theorem wp_app (w : World) {o : Oper} {a : Act} {K : Act → World → Prop} {Q : Exit → Act → World → Prop} (s x : Operand)
    (ho : o.op = .call { callee := .builtin .append, args := #[s, x], argTypes := #[22, 22] })
    (base : Nat) (v : Value) (xs : List Int) (hs : a.eval s = v) (hown : Own w base v xs) (A : Option Addr) (ls : List Int) (m c : Nat) (hx : a.eval x = .slice A m c) (hm : m = ls.length) (hat : Row w A ls) (hn : xs.length + ls.length ≤ 1000) (hbase : base ≤ w.heap.size)
    (h : ∀ v' w', Own w' base v' (xs ++ ls) → Below base w w' → K (a.put o.dst v') w') : o.wp Try.prog a w K Q := by
  obtain ⟨v', w', hr, h2, h3⟩ := run_app w o.type base v xs hown A ls m c hm hat hn hbase
  unfold Oper.wp execOp
  simp only [ho, resolve, invoke, builtin, Sem.run_bind, Sem.run_pure, Result.andThen_ok, List.map_toArray, List.map_cons, List.map_nil, hs, hx, hr]
  exact h v' w' h2 h3
theorem wpList_app (w : World) {ops : Array Oper} {rest : List Oper} {o : Oper} {a : Act} {Q : Exit → Act → World → Prop} (hgd : o.guard = none) (s x : Operand)
    (ho : o.op = .call { callee := .builtin .append, args := #[s, x], argTypes := #[22, 22] })
    (base : Nat) (v : Value) (xs : List Int) (hs : a.eval s = v) (hown : Own w base v xs) (A : Option Addr) (ls : List Int) (m c : Nat) (hx : a.eval x = .slice A m c) (hm : m = ls.length) (hat : Row w A ls) (hn : xs.length + ls.length ≤ 1000) (hbase : base ≤ w.heap.size)
    (h : ∀ v' w', Own w' base v' (xs ++ ls) → Below base w w' → wpList Try.prog ops Q rest (a.put o.dst v') w') : wpList Try.prog ops Q (o :: rest) a w :=
  wpList_plain hgd fun _ hK => wp_app w s x ho base v xs hs hown A ls m c hx hm hat hn hbase fun v' w' h2 h3 => hK _ _ (h v' w' h2 h3)
theorem Own.some_ {w : World} {base : Nat} {A : Option Addr} {n c : Nat} {zs : List Int} (h : Own w base (.slice A n c) zs) (hz : 0 < zs.length) : ∃ g, A = some ⟨g, 0, none⟩ ∧ base ≤ g ∧ g < w.heap.size ∧ ∀ (j : Nat) (x : Int), zs[j]? = some x → w.cell? ⟨g, j, none⟩ = some (.int .i64 x) ∧ w.frozen? ⟨g, j, none⟩ = false := by
  have h0 := h
  rcases h.2 with ⟨h1, h2⟩ | ⟨g, cap, cur, h1, h3, h4, h5, h6, h7, h8⟩
  · omega
  · injection h1 with e1 e2 e3
    subst e1 e2 e3
    refine ⟨g, rfl, h3, (Array.getElem?_eq_some_iff.1 h4).1, fun j x hx => ⟨?_, World.ownsRow.frozenAt h0 j⟩⟩
    have hj := (List.getElem?_eq_some_iff.1 hx).1
    have := World.ownsRow.cellAt h0 j (by omega)
    rw [this, ints, List.getElem?_map, hx]
    rfl
theorem ints_set (zs : List Int) (j : Nat) (x : Int) : ints (zs.set j x) = (ints zs).set j (.int .i64 x) := by simp [ints, List.map_set]
theorem Own.set {w : World} {base g : Nat} {n c : Nat} {zs : List Int} (h : Own w base (.slice (some ⟨g, 0, none⟩) n c) zs) (j : Nat) (x : Int) : Own (w.setCell ⟨g, j, none⟩ (.int .i64 x)) base (.slice (some ⟨g, 0, none⟩) n c) (zs.set j x) ∧ Below base w (w.setCell ⟨g, j, none⟩ (.int .i64 x)) := by
  have h0 := h
  rcases h.2 with ⟨h1, h2⟩ | ⟨g, cap, cur, h1, h3, h4, h5, h6, h7, h8⟩
  · cases h1
  · injection h1 with e1 e2 e3
    injection e1 with e1
    injection e1 with e1
    subst e1 e2 e3
    have hs := World.ownsRow.stored h0 j (.int .i64 x)
    refine ⟨?_, (Below.refl _ _).grown hs.2 (by have := (Array.getElem?_eq_some_iff.1 h4).1; omega) (fun k hk => by injection hk with hk; omega)⟩
    unfold Own
    rw [ints_set, List.length_set]
    exact hs.1
theorem Own.drew {w : World} {base : Nat} {v : Value} {zs : List Int} (h : Own w base v zs) : Own w.drew base v zs := h
theorem Own.block {w : World} {base : Nat} {A : Option Addr} {n c : Nat} {zs : List Int} (h : Own w base (.slice A n c) zs) (b off : Nat) (e : A = some ⟨b, off, none⟩) : base ≤ b ∧ b < w.heap.size := by
  subst e
  exact World.ownsRow.lt h b rfl
theorem Own.bounds {w : World} {base : Nat} {A : Option Addr} {n c : Nat} {zs : List Int} (h : Own w base (.slice A n c) zs) : n ≤ c ∧ c ≤ 9223372036854775807 := by
  obtain ⟨_, _, e, h1, h2⟩ := h.form
  injection e with e1 e2 e3
  subst e3
  unfold maxLen at h2
  omega
attribute [irreducible] Own
/-- A row of one's own is handed back. -/
def Made (w : World) (zs : List Int) (e : Ending) (w' : World) : Prop := ∃ A c, e = .returned (.slice A zs.length c) ∧ Own w' w.heap.size (.slice A zs.length c) zs ∧ Below w.heap.size w w'
theorem eql_nil (w : World) (a : Option Addr) (n c : Nat) : (binOp .eql 22 (.slice a n c) (.slice none 0 0)).run Try.prog w = .ok (.bool a.isNone) w := Lib.run_eql_slice_nil w 22 3 a n c 0 0 Try.underlying22
/-- slices.Clone. -/
theorem clone (A : Option Addr) (n c : Nat) (zs : List Int) (w : World) (hr : Hid (Row w A zs)) (hn : Hid (n = zs.length)) (hm : zs.length ≤ 900) : Calls Try.prog 35 #[.slice A n c] w (Made w zs) := by
  cases A with
  | none =>
    obtain rfl := hr.out.empty
    go_enter Try.func35, Try.ntmps35
    have hq := eql_nil
    go_wp2_with fail
    go_ret
    exact ⟨_, _, rfl, Own.nil _ _, by go_grown⟩
  | some ad =>
    go_enter Try.func35, Try.ntmps35
    have hq := eql_nil
    go_wp2_with (at_builtin; refine wpList_app _ rfl _ _ rfl w.heap.size _ [] rfl (Own.made _ _ (by simp) w.heap.size (Nat.le_refl _) (heap_alloc_new w _)) _ zs _ c rfl hn.out (hr.out.below ((Below.refl _ _).alloc (Nat.le_refl _) _)) (by simp; omega) (by simp) ?_; intro v1 w1 hown1 hb1)
    obtain ⟨A1, c1, rfl, _⟩ := hown1.form
    go_wp2_with fail
    go_ret
    exact ⟨_, _, rfl, hown1, ((Below.refl _ _).alloc (Nat.le_refl _) _).trans hb1⟩
/-- Of the nodes below k those other than self that zs holds, rising. -/
def br (self : Int) (zs : List Int) : Nat → List Int
  | 0 => []
  | k + 1 => if ¬ (k : Int) = self ∧ (k : Int) ∈ zs then br self zs k ++ [(k : Int)] else br self zs k
theorem br_len (self : Int) (zs : List Int) : ∀ k, (br self zs k).length ≤ k
  | 0 => Nat.le_refl _
  | k + 1 => by have := br_len self zs k; unfold br; split <;> simp <;> omega
theorem br_yes {self : Int} {zs : List Int} {k : Nat} (h1 : ¬ (k : Int) = self) (h2 : (k : Int) ∈ zs) : br self zs (k + 1) = br self zs k ++ [(k : Int)] := by simp [br, h1, h2]
theorem br_no {self : Int} {zs : List Int} {k : Nat} (h : ¬ (¬ (k : Int) = self ∧ (k : Int) ∈ zs)) : br self zs (k + 1) = br self zs k := by rw [br, if_neg h]
theorem Row.one (w : World) (x : Int) (t : TypeId) : Row (w.alloc (.cells #[.int .i64 x] t)) (some ⟨w.heap.size, 0, none⟩) [x] := by
  intro j y hy
  refine ⟨_, _, rfl, ?_⟩
  rw [World.cell?_alloc_new]
  cases j with
  | zero => simpa using hy
  | succ j => simp at hy
set_option maxHeartbeats 2000000 in
/-- (*Order).brought. -/
theorem brought (g : Nat) (self : Int) (A : Option Addr) (n c : Nat) (zs : List Int) (w : World) (hg : Hid (w.cell? ⟨g, 0, none⟩ = some (.int .i64 self))) (hr : Hid (Row w A zs)) (hn : Hid (n = zs.length)) (hm : n ≤ 9223372036854775807) :
    Calls Try.prog 36 #[.pointer (some ⟨g, 0, none⟩), .slice A n c] w (Made w (br self zs 8)) := by
  have hgz : g < w.heap.size := World.block_lt_of_cell? w _ hg.out
  go_enter Try.func36, Try.ntmps36
  go_wp2_with fail
  go_loopw [5, 7] (fun v i wr => ∃ k : Nat, k ≤ 8 ∧ i = .int .i64 (k : Int) ∧ Own wr w.heap.size v (br self zs k) ∧ Below w.heap.size w wr) (fun _ i _ => 8 - (intOf i).toNat)
  case atStart => exact ⟨0, by omega, rfl, Own.nil _ _, Below.refl _ _⟩
  case round =>
    obtain ⟨k, hk, rfl, hown, hbl⟩ := hrel
    obtain ⟨A0, c0, rfl, _⟩ := hown.form
    have hbk := br_len self zs k
    by_cases hlt : k < 8
    · have hcg : wr.cell? ⟨g, 0, none⟩ = some (.int .i64 self) := (hbl.cell (p := ⟨g, 0, none⟩) hgz).trans hg.out
      by_cases he : (k : Int) = self
      · have E := br_no (zs := zs) (k := k) (self := self) (fun h => h.1 he)
        go_wp2_with fail
        go_roundw
        case rel => exact ⟨k + 1, by omega, by go_num, by rw [E]; exact hown, hbl⟩
        case measure => simp [intOf]; omega
      · obtain ⟨q, hq⟩ : ∃ q, q = decide ((k : Int) ∈ zs) := ⟨_, rfl⟩
        have hq' := Hid.mk_ hq
        clear hq
        have hown' := Hid.mk_ hown
        clear hown
        cases q with
        | true =>
          go_wp2_with fail
          refine Calls.cells (contains A n c zs (k : Int) _ (hr.out.below hbl) hn hm true hq') ?_
          intro w2 hb2 hc2
          have B2 := hbl.trans (hb2.mono hbl.size)
          have hown2 := hown'.out.keep hb2
          go_wp2_with (at_builtin; refine wpList_app _ rfl _ _ rfl w.heap.size _ (br self zs k) rfl (hown2.keep ((Below.refl _ _).alloc (Nat.le_refl _) _)) _ [(k : Int)] 1 _ rfl rfl (Row.one _ _ _) (by simp; omega) (by have := B2.size; simp; omega) ?_; intro v3 w3 hown3 hb3)
          obtain ⟨A3, c3, rfl, _⟩ := hown3.form
          have E := br_yes (zs := zs) (k := k) (self := self) he (by simpa using hq'.out)
          go_roundw
          case rel => exact ⟨k + 1, by omega, by go_num, by rw [E]; exact hown3, (B2.alloc B2.size _).trans hb3⟩
          case measure => simp [intOf]; omega
        | false =>
          go_wp2_with fail
          refine Calls.cells (contains A n c zs (k : Int) _ (hr.out.below hbl) hn hm false hq') ?_
          intro w2 hb2 hc2
          have B2 := hbl.trans (hb2.mono hbl.size)
          have hown2 := hown'.out.keep hb2
          have E := br_no (zs := zs) (k := k) (self := self) (fun h => by simpa [h.2] using hq'.out)
          go_wp2_with fail
          go_roundw
          case rel => exact ⟨k + 1, by omega, by go_num, by rw [E]; exact hown2, B2⟩
          case measure => simp [intOf]; omega
    · obtain rfl : k = 8 := by omega
      go_wp2_with fail
      go_ret
      exact ⟨_, _, rfl, hown, hbl⟩
end Go.Proofs.Ythobimdnjggkfaa.Prb
