/- Rows of whole numbers: read, owned, appended to, compared. Conditions: the rows lie in memory. -/
import Derived.Test.YtoikadgfbjjfiaaHpL
import Derived.Lib.SliceRun
namespace Go.Proofs.Ytoikadgfbjjfiaa.Wat.Ints
open Go.RowKit Kit
set_option linter.unusedVariables false
/-- The numbers zs lie from A on. -/
def Row (w : World) (A : Option Addr) (zs : List Int) : Prop :=
  ∀ (j : Nat) (x : Int), zs[j]? = some x → ∃ b off, A = some ⟨b, off, none⟩ ∧ w.cell? ⟨b, off + j, none⟩ = some (.int .i64 x)
theorem Row.keep {w w' : World} {A : Option Addr} {zs : List Int} (h : Row w A zs) (hk : ∀ b off, A = some ⟨b, off, none⟩ → b < w.heap.size → w'.heap[b]? = w.heap[b]?) : Row w' A zs := by
  intro j x hx
  obtain ⟨b, off, rfl, hc⟩ := h j x hx
  refine ⟨b, off, rfl, ?_⟩
  have := hk b off rfl (World.block_lt_of_cell? w _ hc)
  rw [← hc]
  simp [World.cell?, this]
theorem Row.below {w w' : World} {A : Option Addr} {zs : List Int} (h : Row w A zs) (hb : Below w.heap.size w w') : Row w' A zs :=
  h.keep fun b _ _ hlt => hb.block b hlt
theorem Row.nil (w : World) (A : Option Addr) : Row w A [] := fun j x h => by simp at h
theorem info_parts {i : Option TypeInfo} {z : Value} {size bytes : Nat} (h : i.map (fun i => (i.zero, i.size, i.bytes)) = some (some z, size, bytes)) : ∃ i0, i = some i0 ∧ i0.zero = some z ∧ i0.size = size ∧ i0.bytes = bytes := by
  cases i with
  | none => cases h
  | some i0 => simp at h; exact ⟨i0, rfl, h.1, h.2.1, h.2.2⟩
theorem info3 : (Try.prog.info? 3).map (fun i => (i.zero, i.size, i.bytes)) = some (some (.int .i64 0), 1, 8) := by kernel_rfl
def ints (zs : List Int) : List Value := zs.map (Value.int .i64)
theorem ints_length (zs : List Int) : (ints zs).length = zs.length := by simp [ints]
theorem ints_one (zs : List Int) : ∀ u ∈ ints zs, u.oneCell' = true := by
  intro u hu
  obtain ⟨x, _, rfl⟩ := List.mem_map.1 hu
  rfl
theorem ints_append (xs ys : List Int) : ints (xs ++ ys) = ints xs ++ ints ys := by simp [ints]
/-- v is a row of one's own that holds zs. -/
def Own (w : World) (base : Nat) (v : Value) (zs : List Int) : Prop := w.ownsRow base 3 1 v zs.length (ints zs)
theorem Own.form {w : World} {base : Nat} {v : Value} {zs : List Int} (h : Own w base v zs) : ∃ A c, v = .slice A zs.length c ∧ zs.length ≤ c ∧ c ≤ maxLen := by
  rcases h.2 with ⟨rfl, h0⟩ | ⟨g, cap, cur, rfl, _, _, h1, h2, _⟩
  · exact ⟨none, 0, by rw [h0], by omega, by unfold maxLen; omega⟩
  · exact ⟨_, _, rfl, h1, h2⟩
theorem Own.row {w : World} {base : Nat} {A : Option Addr} {n c : Nat} {zs : List Int} (h : Own w base (.slice A n c) zs) : n = zs.length ∧ Row w A zs ∧ (A = none → c = 0) := by
  have h0 := h
  rcases h.2 with ⟨h1, h2⟩ | ⟨g, cap, cur, h1, h3, h4, h5, h6, h7, h8⟩
  · injection h1 with e1 e2 e3
    obtain rfl := List.eq_nil_of_length_eq_zero h2
    exact ⟨e2, Row.nil _ _, fun _ => e3⟩
  · injection h1 with e1 e2 e3
    subst e1 e2 e3
    refine ⟨rfl, fun j x hx => ⟨g, 0, rfl, ?_⟩, fun h => by cases h⟩
    have hj := (List.getElem?_eq_some_iff.1 hx).1
    have := World.ownsRow.cellAt h0 j (by omega)
    rw [Nat.zero_add, this, ints, List.getElem?_map, hx]
    rfl
theorem Own.keep {w w' : World} {base : Nat} {v : Value} {zs : List Int} (h : Own w base v zs) (hb : Below w.heap.size w w') : Own w' base v zs := by
  refine World.ownsRow.kept (row := none) h ⟨hb.os, hb.tape, hb.output, hb.size, fun k hk _ => hb.block k hk⟩ ?_
  cases v.ownBlock
  · exact .inl rfl
  · exact .inr (by simp)
theorem Own.nil (w : World) (base : Nat) : Own w base (.slice none 0 0) [] := World.ownsRow_nil _ _ _ _
theorem Own.made (w : World) (base : Nat) (hb : base ≤ w.heap.size) (g : Nat) (hg : base ≤ g) (h : w.heap[g]? = some (.cells #[] 3 (0, 0))) : Own w base (.slice (some ⟨g, 0, none⟩) 0 0) [] :=
  ⟨rfl, .inr ⟨g, 0, #[], rfl, hg, h, Nat.le_refl _, by unfold maxLen; omega, rfl, rfl⟩⟩
theorem Own.mono {w : World} {base base' : Nat} {v : Value} {zs : List Int} (h : Own w base v zs) (hb : base' ≤ base) : Own w base' v zs := by
  refine ⟨h.1, ?_⟩
  rcases h.2 with h1 | ⟨g, cap, cur, h1, h3, h4⟩
  · exact .inl h1
  · exact .inr ⟨g, cap, cur, h1, Nat.le_trans hb h3, h4⟩
theorem Row.cells {w : World} {ad : Addr} {zs : List Int} (h : Row w (some ad) zs) : ∀ j u, (ints zs)[j]? = some u → w.cell? (ad.add j) = some u := by
  intro j u hu
  rw [ints, List.getElem?_map] at hu
  cases hz : zs[j]? with
  | none => rw [hz] at hu; cases hu
  | some x =>
    rw [hz] at hu
    obtain ⟨b, off, e, hc⟩ := h j x hz
    injection e with e
    subst e
    rw [Addr.add_lit, hc]
    exact hu
theorem Row.empty {w : World} {zs : List Int} (h : Row w none zs) : zs = [] := by
  cases zs with
  | nil => rfl
  | cons c l =>
    obtain ⟨b, off, ha, _⟩ := h 0 c rfl
    cases ha
theorem run_none (w : World) (ty : TypeId) (i0 : TypeInfo) (hi : Try.prog.info? 3 = some i0) (base n c : Nat) (v : Value) (xs : List Value) (hown : w.ownsRow base 3 1 v n xs) :
    (Builtin.append_ #[22, 22] ty #[v, .slice none 0 c]).run Try.prog w = .ok v w := by
  rcases hown.2 with ⟨rfl, rfl⟩ | ⟨g, cap, cur, rfl, hbg, hg, hnc, hcm, hcs, htake⟩
  · simp [Builtin.append_, run_underlying Try.underlying22, sizeOf, typeInfo, hi, Builtin.lenOf, Builtin.firstCells]
  · simp [Builtin.append_, run_underlying Try.underlying22, sizeOf, typeInfo, hi, Builtin.lenOf, Builtin.firstCells, loadCells, hnc, storeCells]
theorem run_app (w : World) (ty : TypeId) (base : Nat) (v : Value) (xs : List Int) (hown : Own w base v xs) (A : Option Addr) (ls : List Int) (m c : Nat) (hm : m = ls.length) (hat : Row w A ls) (hn : xs.length + ls.length ≤ 1000000) (hbase : base ≤ w.heap.size) :
    ∃ v' w', (Builtin.append_ #[22, 22] ty #[v, .slice A m c]).run Try.prog w = .ok v' w' ∧ Own w' base v' (xs ++ ls) ∧ Below base w w' := by
  obtain ⟨i0, hi0, hz0, hz1, hz2⟩ := info_parts info3
  subst hm
  cases A with
  | none =>
    obtain rfl := hat.empty
    refine ⟨v, w, run_none w ty i0 hi0 base _ c v _ hown, ?_, Below.refl _ _⟩
    rw [List.append_nil]; exact hown
  | some ad =>
    obtain ⟨v', w', hr, h1, h2, _⟩ := run_append_own (P := Try.prog) w base 22 ty 3 i0 _ 1 8 Try.underlying22 hi0 hz0 hz1 hz2 rfl (by decide) v xs.length (ints xs) hown ad ls.length c (ints ls) (by rw [ints_length, Nat.mul_one]) hat.cells (ints_one ls) (by unfold maxLen; omega) (by omega) hbase
    refine ⟨v', w', hr, ?_, (Below.refl _ _).grown h2 hbase (fun j hj => (World.ownsRow.lt hown j hj).1)⟩
    unfold Own
    rw [ints_append, List.length_append]
    exact h1
theorem wp_app (w : World) {o : Oper} {a : Act} {K : Act → World → Prop} {Q : Exit → Act → World → Prop} (s x : Operand)
    (ho : o.op = .call { callee := .builtin .append, args := #[s, x], argTypes := #[22, 22] })
    (base : Nat) (v : Value) (xs : List Int) (hs : a.eval s = v) (hown : Own w base v xs) (A : Option Addr) (ls : List Int) (m c : Nat) (hx : a.eval x = .slice A m c) (hm : m = ls.length) (hat : Row w A ls) (hn : xs.length + ls.length ≤ 1000000) (hbase : base ≤ w.heap.size)
    (h : ∀ v' w', Own w' base v' (xs ++ ls) → Below base w w' → K (a.put o.dst v') w') : o.wp Try.prog a w K Q := by
  obtain ⟨v', w', hr, h2, h3⟩ := run_app w o.type base v xs hown A ls m c hm hat hn hbase
  unfold Oper.wp execOp
  simp only [ho, resolve, invoke, builtin, Sem.run_bind, Sem.run_pure, Result.andThen_ok, List.map_toArray, List.map_cons, List.map_nil, hs, hx, hr]
  exact h v' w' h2 h3
theorem wpList_app (w : World) {ops : Array Oper} {rest : List Oper} {o : Oper} {a : Act} {Q : Exit → Act → World → Prop} (hgd : o.guard = none) (s x : Operand)
    (ho : o.op = .call { callee := .builtin .append, args := #[s, x], argTypes := #[22, 22] })
    (base : Nat) (v : Value) (xs : List Int) (hs : a.eval s = v) (hown : Own w base v xs) (A : Option Addr) (ls : List Int) (m c : Nat) (hx : a.eval x = .slice A m c) (hm : m = ls.length) (hat : Row w A ls) (hn : xs.length + ls.length ≤ 1000000) (hbase : base ≤ w.heap.size)
    (h : ∀ v' w', Own w' base v' (xs ++ ls) → Below base w w' → wpList Try.prog ops Q rest (a.put o.dst v') w') : wpList Try.prog ops Q (o :: rest) a w :=
  wpList_plain hgd fun _ hK => wp_app w s x ho base v xs hs hown A ls m c hx hm hat hn hbase fun v' w' h2 h3 => hK _ _ (h v' w' h2 h3)
theorem Own.some_ {w : World} {base : Nat} {A : Option Addr} {n c : Nat} {zs : List Int} (h : Own w base (.slice A n c) zs) (hz : 0 < zs.length) : ∃ g, A = some ⟨g, 0, none⟩ ∧ base ≤ g ∧ g < w.heap.size ∧ ∀ (j : Nat) (x : Int), zs[j]? = some x → w.cell? ⟨g, j, none⟩ = some (.int .i64 x) ∧ w.frozen? ⟨g, j, none⟩ = false := by
  have h0 := h
  rcases h.2 with ⟨h1, h2⟩ | ⟨g, cap, cur, h1, h3, h4, h5, h6, h7, h8⟩
  · omega
  · injection h1 with e1 e2 e3
    subst e1 e2 e3
    refine ⟨g, rfl, h3, (Array.getElem?_eq_some_iff.1 h4).1, fun j x hx => ⟨?_, World.ownsRow.frozenAt h0 j⟩⟩
    have hj := (List.getElem?_eq_some_iff.1 hx).1
    have := World.ownsRow.cellAt h0 j (by omega)
    rw [this, ints, List.getElem?_map, hx]
    rfl
theorem ints_set (zs : List Int) (j : Nat) (x : Int) : ints (zs.set j x) = (ints zs).set j (.int .i64 x) := by simp [ints, List.map_set]
theorem Own.set {w : World} {base g : Nat} {n c : Nat} {zs : List Int} (h : Own w base (.slice (some ⟨g, 0, none⟩) n c) zs) (j : Nat) (x : Int) : Own (w.setCell ⟨g, j, none⟩ (.int .i64 x)) base (.slice (some ⟨g, 0, none⟩) n c) (zs.set j x) ∧ Below base w (w.setCell ⟨g, j, none⟩ (.int .i64 x)) := by
  have h0 := h
  rcases h.2 with ⟨h1, h2⟩ | ⟨g, cap, cur, h1, h3, h4, h5, h6, h7, h8⟩
  · cases h1
  · injection h1 with e1 e2 e3
    injection e1 with e1
    injection e1 with e1
    subst e1 e2 e3
    have hs := World.ownsRow.stored h0 j (.int .i64 x)
    refine ⟨?_, (Below.refl _ _).grown hs.2 (by have := (Array.getElem?_eq_some_iff.1 h4).1; omega) (fun k hk => by injection hk with hk; omega)⟩
    unfold Own
    rw [ints_set, List.length_set]
    exact hs.1
theorem Own.drew {w : World} {base : Nat} {v : Value} {zs : List Int} (h : Own w base v zs) : Own w.drew base v zs := h
theorem Own.block {w : World} {base : Nat} {A : Option Addr} {n c : Nat} {zs : List Int} (h : Own w base (.slice A n c) zs) (b off : Nat) (e : A = some ⟨b, off, none⟩) : base ≤ b ∧ b < w.heap.size := by
  subst e
  exact World.ownsRow.lt h b rfl
theorem Own.bounds {w : World} {base : Nat} {A : Option Addr} {n c : Nat} {zs : List Int} (h : Own w base (.slice A n c) zs) : n ≤ c ∧ c ≤ 9223372036854775807 := by
  obtain ⟨_, _, e, h1, h2⟩ := h.form
  injection e with e1 e2 e3
  subst e3
  unfold maxLen at h2
  omega
attribute [irreducible] Own
theorem eql_nil (w : World) (a : Option Addr) (n c : Nat) : (binOp .eql 22 (.slice a n c) (.slice none 0 0)).run Try.prog w = .ok (.bool a.isNone) w := Lib.run_eql_slice_nil w 22 3 a n c 0 0 Try.underlying22
theorem Row.one (w : World) (x : Int) (t : TypeId) : Row (w.alloc (.cells #[.int .i64 x] t)) (some ⟨w.heap.size, 0, none⟩) [x] := by
  intro j y hy
  refine ⟨_, _, rfl, ?_⟩
  rw [World.cell?_alloc_new]
  cases j with
  | zero => simpa using hy
  | succ j => simp at hy
theorem list_of (P : Nat → Int → Prop) : ∀ n, (∀ i, i < n → ∃ c, P i c) → ∃ ls : List Int, ls.length = n ∧ ∀ (i : Nat) (c : Int), ls[i]? = some c → P i c
  | 0, _ => ⟨[], rfl, fun i c h => by simp at h⟩
  | n + 1, h => by
    obtain ⟨ls, hl, hp⟩ := list_of P n (fun i hi => h i (by omega))
    obtain ⟨c, hc⟩ := h n (by omega)
    refine ⟨ls ++ [c], by simp [hl], fun i d hd => ?_⟩
    by_cases hi : i < n
    · rw [List.getElem?_append_left (by omega)] at hd
      exact hp i d hd
    · rw [List.getElem?_append_right (by omega)] at hd
      have : i = n := by
        have := (List.getElem?_eq_some_iff.1 hd).1
        simp at this; omega
      subst this
      rw [hl] at hd
      simp at hd
      subst hd
      exact hc
def shI : Sh := .int .i64
theorem rd_slice {w : World} {e : Sh} {cs : List Value} (h : RD w (.slice e) cs) : ∃ A n c, cs = [.slice A n c] := by
  rcases h with rfl | ⟨a, len, cap, rfl, _⟩
  · exact ⟨_, _, _, rfl⟩
  · exact ⟨_, _, _, rfl⟩
theorem add_off (a : Addr) (k : Nat) (h : a.spot = none) : a.add k = ⟨a.block, a.off + k, none⟩ := by
  obtain ⟨b, o, s⟩ := a
  simp only at h
  subst h
  rw [Addr.add_lit]
theorem rd_ints {w : World} {A : Option Addr} {n c : Nat} (h : RD w (.slice (.int .i64)) [.slice A n c]) : ∃ zs : List Int, zs.length = n ∧ Row w A zs ∧ n ≤ c ∧ c ≤ 9223372036854775807 ∧ (A = none → c = 0) := by
  rcases h with h | ⟨a, len, cap, h, hl, hm, hi⟩
  · simp only [List.cons.injEq, Value.slice.injEq, and_true] at h
    obtain ⟨rfl, rfl, rfl⟩ := h
    exact ⟨[], rfl, Row.nil _ _, Nat.le_refl _, by omega, fun _ => rfl⟩
  · simp only [List.cons.injEq, Value.slice.injEq, and_true] at h
    obtain ⟨rfl, rfl, rfl⟩ := h
    obtain ⟨ls, hls, hp⟩ := list_of (fun i c => ∃ b off, some a = some ⟨b, off, none⟩ ∧ w.cell? ⟨b, off + i, none⟩ = some (.int .i64 c)) n (fun i hin => by
      obtain ⟨es, hel, hat, hr⟩ := hi i hin
      obtain ⟨x, rfl, _⟩ := rd_int hr
      have e1 : (Sh.int IntKind.i64).size = 1 := rfl
      rw [e1] at hat
      have h0 := hat 0 (by omega)
      have hs : a.spot = none := by
        cases hsp : a.spot with
        | none => rfl
        | some v =>
          obtain ⟨es0, _, hat0, hr0⟩ := hi 0 (by omega)
          obtain ⟨x0, rfl, _⟩ := rd_int hr0
          have := hat0 0 (by rw [e1]; omega)
          rw [e1] at this
          unfold Addr.add at this
          simp [World.cell?, hsp] at this
          split at this <;> simp at this
      rw [add_off a _ hs] at h0
      refine ⟨x, a.block, a.off, ?_, ?_⟩
      · obtain ⟨b, o, s⟩ := a; simp only at hs; subst hs; rfl
      · rw [Nat.mul_one, Nat.add_zero] at h0; exact h0)
    unfold maxLen at hm
    exact ⟨ls, hls, hp, hl, by omega, fun h => by cases h⟩
set_option maxHeartbeats 2000000 in
theorem same (A A' : Option Addr) (n c n' c' : Nat) (xs ys : List Int) (w : World) (hr : Hid (Row w A xs)) (hn : Hid (n = xs.length)) (hm : n ≤ 9223372036854775807) (hr' : Hid (Row w A' ys)) (hn' : Hid (n' = ys.length)) (hm' : n' ≤ 9223372036854775807) (q : Bool) (hq : Hid (q = decide (xs = ys))) :
    Calls Try.prog 22 #[.slice A n c, .slice A' n' c'] w fun e w' => e = .returned (.bool q) ∧ Below w.heap.size w w' := by
  go_enter Try.func22, Try.ntmps22
  by_cases hne : n = n'
  · subst hne
    go_wp2_with fail
    go_loopw [5, 13] (fun _ i wr => ∃ k : Nat, k ≤ n ∧ i = .int .i64 (k : Int) ∧ Hid (xs.take k = ys.take k) ∧ Hid (Below w.heap.size w wr)) (fun _ i _ => n - (intOf i).toNat)
    case atStart => exact ⟨0, by omega, rfl, Hid.mk_ rfl, Hid.mk_ (Below.refl _ _)⟩
    case round =>
      obtain ⟨k, hk, rfl, ht, hb⟩ := hrel
      by_cases hlt : k < n
      · obtain ⟨x, hx⟩ : ∃ x, xs[k]? = some x := ⟨_, List.getElem?_eq_getElem (by have := hn.out; omega)⟩
        obtain ⟨y, hy⟩ : ∃ y, ys[k]? = some y := ⟨_, List.getElem?_eq_getElem (by have := hn'.out; omega)⟩
        obtain ⟨b1, o1, rfl, c1⟩ := (hr.out.keep fun b _ _ hlt => hb.out.block b hlt) k x hx
        obtain ⟨b2, o2, rfl, c2⟩ := (hr'.out.keep fun b _ _ hlt => hb.out.block b hlt) k y hy
        have HX := Hid.mk_ hx
        have HY := Hid.mk_ hy
        clear hx hy
        have l1 : (k : Int) < (n : Int) := by omega
        have l0 : (0 : Int) ≤ (k : Int) := by omega
        by_cases he : x = y
        · subst he
          go_wp2_with fail
          go_region
          go_wp2_with fail
          go_roundw
          case rel =>
            refine ⟨k + 1, by omega, by go_num, Hid.mk_ ?_, Hid.mk_ hb.out.drew⟩
            rw [List.take_add_one, List.take_add_one, HX.out, HY.out, ht.out]
          case measure => simp [intOf]; omega
        · go_wp2_with fail
          go_region
          go_wp2_with fail
          go_ret
          refine ⟨?_, hb.out.drew⟩
          rw [hq.out]
          simp
          intro e
          have := HX.out
          rw [e, HY.out] at this
          exact he (by simpa using this.symm)
      · obtain rfl : k = n := by omega
        go_wp2_with fail
        go_ret
        refine ⟨?_, hb.out⟩
        have h := ht.out
        rw [List.take_of_length_le (by have := hn.out; omega), List.take_of_length_le (by have := hn'.out; omega)] at h
        rw [hq.out, h]
        simp
  · go_wp2_with fail
    go_ret
    refine ⟨?_, by go_grown⟩
    rw [hq.out]
    have : xs ≠ ys := fun e => hne (by rw [hn.out, hn'.out, e])
    simp [this]
/-- How many Some takes. -/
def many (k : Int) (n : Nat) : Nat := (max 0 (min k (n : Int))).toNat
end Go.Proofs.Ytoikadgfbjjfiaa.Wat.Ints
