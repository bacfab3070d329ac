/- Orders of peers, first part. Conditions: as each theorem says. -/
import Derived.Test.YthndjhocmpelcaaGreatProg
import Derived.Test.YthndjhocmpelcaaGreatKit
import Derived.Test.YthndjhocmpelcaaGreatReads
import Derived.WalkKit
import Derived.OwnWalk
import Derived.Deep.LoopGhost
import Derived.Lib.SliceRun
import Derived.Deep.Cut
import Derived.Deep.RegionHeld3
namespace Go.Proofs.YthndjhocmpelcaaGreat.Prb
open Go.RowKit Kit
set_option linter.unusedVariables false
theorem Hid.mk_ {p : Prop} (h : p) : Hid p := h
/-- The numbers zs lie from A on. -/
def Row (w : World) (A : Option Addr) (zs : List Int) : Prop :=
  ∀ (j : Nat) (x : Int), zs[j]? = some x → ∃ b off, A = some ⟨b, off, none⟩ ∧ w.cell? ⟨b, off + j, none⟩ = some (.int .i64 x)
theorem Row.keep {w w' : World} {A : Option Addr} {zs : List Int} (h : Row w A zs) (hk : ∀ b off, A = some ⟨b, off, none⟩ → b < w.heap.size → w'.heap[b]? = w.heap[b]?) : Row w' A zs := by
  intro j x hx
  obtain ⟨b, off, rfl, hc⟩ := h j x hx
  refine ⟨b, off, rfl, ?_⟩
  have := hk b off rfl (World.block_lt_of_cell? w _ hc)
  rw [← hc]
  simp [World.cell?, this]
theorem Row.below {w w' : World} {A : Option Addr} {zs : List Int} (h : Row w A zs) (hb : Below w.heap.size w w') : Row w' A zs :=
  h.keep fun b _ _ hlt => hb.block b hlt
theorem Row.nil (w : World) (A : Option Addr) : Row w A [] := fun j x h => by simp at h
theorem mem_of {zs : List Int} {k : Nat} (x : Int) (hk : k < zs.length) (hp : ∀ j, j < k → zs[j]? ≠ some x) (he : x ≠ zs[k]) : ∀ j, j < k + 1 → zs[j]? ≠ some x := by
  intro j hj
  by_cases e : j = k
  · subst e
    rw [List.getElem?_eq_getElem hk]
    intro h
    exact he (by simpa using h.symm)
  · exact hp j (by omega)
set_option maxHeartbeats 1000000 in
theorem index (A : Option Addr) (n c : Nat) (zs : List Int) (x : Int) (w : World) (hr : Hid (Row w A zs)) (hn : Hid (n = zs.length)) (hm : n ≤ 9223372036854775807) :
    Calls Tryz.prog 93 #[.slice A n c, .int .i64 x] w fun e w' => ∃ r : Int, e = .returned (.int .i64 r) ∧ Hid (0 ≤ r ↔ x ∈ zs) ∧ w' = w := by
  go_enter Tryz.func93, Tryz.ntmps93
  go_wp2_with fail
  go_loop [5, 8] (fun _ i => ∃ k : Nat, k ≤ n ∧ i = .int .i64 (k : Int) ∧ ∀ j, j < k → zs[j]? ≠ some x) (fun _ i => n - (intOf i).toNat)
  case atStart => exact ⟨0, by omega, rfl, fun j hj => by omega⟩
  case round =>
    obtain ⟨k, hk, rfl, hp⟩ := hrel
    have HP := Hid.mk_ hp
    clear hp
    by_cases hlt : k < n
    · obtain ⟨y, hy⟩ : ∃ y, zs[k]? = some y := ⟨_, List.getElem?_eq_getElem (by have := hn.out; omega)⟩
      obtain ⟨b, off, rfl, hc⟩ := hr.out k y hy
      have HY := Hid.mk_ hy
      clear hy
      by_cases he : x = y
      · go_wp2_with fail
        go_ret
        exact ⟨_, rfl, Hid.mk_ (by simp; exact List.mem_of_getElem? HY.out), rfl⟩
      · go_wp2_with fail
        go_round
        case rel =>
          refine ⟨k + 1, by omega, by go_num, fun j hj => ?_⟩
          by_cases e : j = k
          · subst e
            rw [HY.out]
            intro h
            exact he (by simpa using h.symm)
          · exact HP.out j (by omega)
        case measure => simp [intOf]; omega
    · obtain rfl : k = n := by omega
      go_wp2_with fail
      go_ret
      refine ⟨_, rfl, Hid.mk_ (by simp; intro hm; obtain ⟨j, hj⟩ := List.getElem?_of_mem hm; exact HP.out j (by have := (List.getElem?_eq_some_iff.1 hj).1; have := hn.out; omega) hj), rfl⟩
/-- slices.Contains. -/
theorem contains0 (A : Option Addr) (n c : Nat) (zs : List Int) (x : Int) (w : World) (hr : Hid (Row w A zs)) (hn : Hid (n = zs.length)) (hm : n ≤ 9223372036854775807) (q : Bool) (hq : Hid (q = decide (x ∈ zs))) :
    Calls Tryz.prog 73 #[.slice A n c, .int .i64 x] w fun e w' => e = .returned (.bool q) ∧ w' = w := by
  go_enter Tryz.func73, Tryz.ntmps73
  go_wp2_with fail
  refine (index A n c zs x _ hr hn hm).mono ?_
  rintro e w1 ⟨r, rfl, h, rfl⟩
  go_wp2_with fail
  go_ret
  exact ⟨by rw [hq.out]; simp [h.out], rfl⟩
theorem contains (A : Option Addr) (n c : Nat) (zs : List Int) (x : Int) (w : World) (hr : Hid (Row w A zs)) (hn : Hid (n = zs.length)) (hm : n ≤ 9223372036854775807) (q : Bool) (hq : Hid (q = decide (x ∈ zs))) :
    Calls Tryz.prog 73 #[.slice A n c, .int .i64 x] w fun e w' => e = .returned (.bool q) ∧ Below w.heap.size w w' :=
  (contains0 A n c zs x w hr hn hm q hq).mono fun e w' ⟨h1, h2⟩ => ⟨h1, by subst h2; exact Below.refl _ _⟩
end Go.Proofs.YthndjhocmpelcaaGreat.Prb
namespace Go.Proofs.YthndjhocmpelcaaGreat.Prb
open Go.RowKit Kit
set_option linter.unusedVariables false
theorem info_parts {i : Option TypeInfo} {z : Value} {size bytes : Nat} (h : i.map (fun i => (i.zero, i.size, i.bytes)) = some (some z, size, bytes)) : ∃ i0, i = some i0 ∧ i0.zero = some z ∧ i0.size = size ∧ i0.bytes = bytes := by
  cases i with
  | none => cases h
  | some i0 => simp at h; exact ⟨i0, rfl, h.1, h.2.1, h.2.2⟩
theorem info3 : (Tryz.prog.info? 3).map (fun i => (i.zero, i.size, i.bytes)) = some (some (.int .i64 0), 1, 8) := by kernel_rfl
def ints (zs : List Int) : List Value := zs.map (Value.int .i64)
theorem ints_length (zs : List Int) : (ints zs).length = zs.length := by simp [ints]
theorem ints_one (zs : List Int) : ∀ u ∈ ints zs, u.oneCell' = true := by
  intro u hu
  obtain ⟨x, _, rfl⟩ := List.mem_map.1 hu
  rfl
theorem ints_append (xs ys : List Int) : ints (xs ++ ys) = ints xs ++ ints ys := by simp [ints]
/-- v is a row of one's own that holds zs. -/
def Own (w : World) (base : Nat) (v : Value) (zs : List Int) : Prop := w.ownsRow base 3 1 v zs.length (ints zs)
theorem Own.form {w : World} {base : Nat} {v : Value} {zs : List Int} (h : Own w base v zs) : ∃ A c, v = .slice A zs.length c ∧ zs.length ≤ c ∧ c ≤ maxLen := by
  rcases h.2 with ⟨rfl, h0⟩ | ⟨g, cap, cur, rfl, _, _, h1, h2, _⟩
  · exact ⟨none, 0, by rw [h0], by omega, by unfold maxLen; omega⟩
  · exact ⟨_, _, rfl, h1, h2⟩
theorem Own.row {w : World} {base : Nat} {A : Option Addr} {n c : Nat} {zs : List Int} (h : Own w base (.slice A n c) zs) : n = zs.length ∧ Row w A zs ∧ (A = none → c = 0) := by
  have h0 := h
  rcases h.2 with ⟨h1, h2⟩ | ⟨g, cap, cur, h1, h3, h4, h5, h6, h7, h8⟩
  · injection h1 with e1 e2 e3
    obtain rfl := List.eq_nil_of_length_eq_zero h2
    exact ⟨e2, Row.nil _ _, fun _ => e3⟩
  · injection h1 with e1 e2 e3
    subst e1 e2 e3
    refine ⟨rfl, fun j x hx => ⟨g, 0, rfl, ?_⟩, fun h => by cases h⟩
    have hj := (List.getElem?_eq_some_iff.1 hx).1
    have := World.ownsRow.cellAt h0 j (by omega)
    rw [Nat.zero_add, this, ints, List.getElem?_map, hx]
    rfl
theorem Own.keep {w w' : World} {base : Nat} {v : Value} {zs : List Int} (h : Own w base v zs) (hb : Below w.heap.size w w') : Own w' base v zs := by
  refine World.ownsRow.kept (row := none) h ⟨hb.os, hb.tape, hb.output, hb.size, fun k hk _ => hb.block k hk⟩ ?_
  cases v.ownBlock
  · exact .inl rfl
  · exact .inr (by simp)
theorem Own.nil (w : World) (base : Nat) : Own w base (.slice none 0 0) [] := World.ownsRow_nil _ _ _ _
theorem Own.made (w : World) (base : Nat) (hb : base ≤ w.heap.size) (g : Nat) (hg : base ≤ g) (h : w.heap[g]? = some (.cells #[] 3 (0, 0))) : Own w base (.slice (some ⟨g, 0, none⟩) 0 0) [] :=
  ⟨rfl, .inr ⟨g, 0, #[], rfl, hg, h, Nat.le_refl _, by unfold maxLen; omega, rfl, rfl⟩⟩
theorem Own.mono {w : World} {base base' : Nat} {v : Value} {zs : List Int} (h : Own w base v zs) (hb : base' ≤ base) : Own w base' v zs := by
  refine ⟨h.1, ?_⟩
  rcases h.2 with h1 | ⟨g, cap, cur, h1, h3, h4⟩
  · exact .inl h1
  · exact .inr ⟨g, cap, cur, h1, Nat.le_trans hb h3, h4⟩
theorem Row.cells {w : World} {ad : Addr} {zs : List Int} (h : Row w (some ad) zs) : ∀ j u, (ints zs)[j]? = some u → w.cell? (ad.add j) = some u := by
  intro j u hu
  rw [ints, List.getElem?_map] at hu
  cases hz : zs[j]? with
  | none => rw [hz] at hu; cases hu
  | some x =>
    rw [hz] at hu
    obtain ⟨b, off, e, hc⟩ := h j x hz
    injection e with e
    subst e
    rw [Addr.add_lit, hc]
    exact hu
theorem Row.empty {w : World} {zs : List Int} (h : Row w none zs) : zs = [] := by
  cases zs with
  | nil => rfl
  | cons c l =>
    obtain ⟨b, off, ha, _⟩ := h 0 c rfl
    cases ha
theorem run_none (w : World) (ty : TypeId) (i0 : TypeInfo) (hi : Tryz.prog.info? 3 = some i0) (base n c : Nat) (v : Value) (xs : List Value) (hown : w.ownsRow base 3 1 v n xs) :
    (Builtin.append_ #[36, 36] ty #[v, .slice none 0 c]).run Tryz.prog w = .ok v w := by
  rcases hown.2 with ⟨rfl, rfl⟩ | ⟨g, cap, cur, rfl, hbg, hg, hnc, hcm, hcs, htake⟩
  · simp [Builtin.append_, run_underlying Tryz.underlying36, sizeOf, typeInfo, hi, Builtin.lenOf, Builtin.firstCells]
  · simp [Builtin.append_, run_underlying Tryz.underlying36, sizeOf, typeInfo, hi, Builtin.lenOf, Builtin.firstCells, loadCells, hnc, storeCells]
theorem run_app (w : World) (ty : TypeId) (base : Nat) (v : Value) (xs : List Int) (hown : Own w base v xs) (A : Option Addr) (ls : List Int) (m c : Nat) (hm : m = ls.length) (hat : Row w A ls) (hn : xs.length + ls.length ≤ 1000) (hbase : base ≤ w.heap.size) :
    ∃ v' w', (Builtin.append_ #[36, 36] ty #[v, .slice A m c]).run Tryz.prog w = .ok v' w' ∧ Own w' base v' (xs ++ ls) ∧ Below base w w' := by
  obtain ⟨i0, hi0, hz0, hz1, hz2⟩ := info_parts info3
  subst hm
  cases A with
  | none =>
    obtain rfl := hat.empty
    refine ⟨v, w, run_none w ty i0 hi0 base _ c v _ hown, ?_, Below.refl _ _⟩
    rw [List.append_nil]; exact hown
  | some ad =>
    obtain ⟨v', w', hr, h1, h2, _⟩ := run_append_own (P := Tryz.prog) w base 36 ty 3 i0 _ 1 8 Tryz.underlying36 hi0 hz0 hz1 hz2 rfl (by decide) v xs.length (ints xs) hown ad ls.length c (ints ls) (by rw [ints_length, Nat.mul_one]) hat.cells (ints_one ls) (by unfold maxLen; omega) (by omega) hbase
    refine ⟨v', w', hr, ?_, (Below.refl _ _).grown h2 hbase (fun j hj => (World.ownsRow.lt hown j hj).1)⟩
    unfold Own
    rw [ints_append, List.length_append]
    exact h1
theorem wp_app (w : World) {o : Oper} {a : Act} {K : Act → World → Prop} {Q : Exit → Act → World → Prop} (s x : Operand)
    (ho : o.op = .call { callee := .builtin .append, args := #[s, x], argTypes := #[36, 36] })
    (base : Nat) (v : Value) (xs : List Int) (hs : a.eval s = v) (hown : Own w base v xs) (A : Option Addr) (ls : List Int) (m c : Nat) (hx : a.eval x = .slice A m c) (hm : m = ls.length) (hat : Row w A ls) (hn : xs.length + ls.length ≤ 1000) (hbase : base ≤ w.heap.size)
    (h : ∀ v' w', Own w' base v' (xs ++ ls) → Below base w w' → K (a.put o.dst v') w') : o.wp Tryz.prog a w K Q := by
  obtain ⟨v', w', hr, h2, h3⟩ := run_app w o.type base v xs hown A ls m c hm hat hn hbase
  unfold Oper.wp execOp
  simp only [ho, resolve, invoke, builtin, Sem.run_bind, Sem.run_pure, Result.andThen_ok, List.map_toArray, List.map_cons, List.map_nil, hs, hx, hr]
  exact h v' w' h2 h3
theorem wpList_app (w : World) {ops : Array Oper} {rest : List Oper} {o : Oper} {a : Act} {Q : Exit → Act → World → Prop} (hgd : o.guard = none) (s x : Operand)
    (ho : o.op = .call { callee := .builtin .append, args := #[s, x], argTypes := #[36, 36] })
    (base : Nat) (v : Value) (xs : List Int) (hs : a.eval s = v) (hown : Own w base v xs) (A : Option Addr) (ls : List Int) (m c : Nat) (hx : a.eval x = .slice A m c) (hm : m = ls.length) (hat : Row w A ls) (hn : xs.length + ls.length ≤ 1000) (hbase : base ≤ w.heap.size)
    (h : ∀ v' w', Own w' base v' (xs ++ ls) → Below base w w' → wpList Tryz.prog ops Q rest (a.put o.dst v') w') : wpList Tryz.prog ops Q (o :: rest) a w :=
  wpList_plain hgd fun _ hK => wp_app w s x ho base v xs hs hown A ls m c hx hm hat hn hbase fun v' w' h2 h3 => hK _ _ (h v' w' h2 h3)
theorem Own.some_ {w : World} {base : Nat} {A : Option Addr} {n c : Nat} {zs : List Int} (h : Own w base (.slice A n c) zs) (hz : 0 < zs.length) : ∃ g, A = some ⟨g, 0, none⟩ ∧ base ≤ g ∧ g < w.heap.size ∧ ∀ (j : Nat) (x : Int), zs[j]? = some x → w.cell? ⟨g, j, none⟩ = some (.int .i64 x) ∧ w.frozen? ⟨g, j, none⟩ = false := by
  have h0 := h
  rcases h.2 with ⟨h1, h2⟩ | ⟨g, cap, cur, h1, h3, h4, h5, h6, h7, h8⟩
  · omega
  · injection h1 with e1 e2 e3
    subst e1 e2 e3
    refine ⟨g, rfl, h3, (Array.getElem?_eq_some_iff.1 h4).1, fun j x hx => ⟨?_, World.ownsRow.frozenAt h0 j⟩⟩
    have hj := (List.getElem?_eq_some_iff.1 hx).1
    have := World.ownsRow.cellAt h0 j (by omega)
    rw [this, ints, List.getElem?_map, hx]
    rfl
theorem ints_set (zs : List Int) (j : Nat) (x : Int) : ints (zs.set j x) = (ints zs).set j (.int .i64 x) := by simp [ints, List.map_set]
theorem Own.set {w : World} {base g : Nat} {n c : Nat} {zs : List Int} (h : Own w base (.slice (some ⟨g, 0, none⟩) n c) zs) (j : Nat) (x : Int) : Own (w.setCell ⟨g, j, none⟩ (.int .i64 x)) base (.slice (some ⟨g, 0, none⟩) n c) (zs.set j x) ∧ Below base w (w.setCell ⟨g, j, none⟩ (.int .i64 x)) := by
  have h0 := h
  rcases h.2 with ⟨h1, h2⟩ | ⟨g, cap, cur, h1, h3, h4, h5, h6, h7, h8⟩
  · cases h1
  · injection h1 with e1 e2 e3
    injection e1 with e1
    injection e1 with e1
    subst e1 e2 e3
    have hs := World.ownsRow.stored h0 j (.int .i64 x)
    refine ⟨?_, (Below.refl _ _).grown hs.2 (by have := (Array.getElem?_eq_some_iff.1 h4).1; omega) (fun k hk => by injection hk with hk; omega)⟩
    unfold Own
    rw [ints_set, List.length_set]
    exact hs.1
theorem Own.drew {w : World} {base : Nat} {v : Value} {zs : List Int} (h : Own w base v zs) : Own w.drew base v zs := h
theorem Own.block {w : World} {base : Nat} {A : Option Addr} {n c : Nat} {zs : List Int} (h : Own w base (.slice A n c) zs) (b off : Nat) (e : A = some ⟨b, off, none⟩) : base ≤ b ∧ b < w.heap.size := by
  subst e
  exact World.ownsRow.lt h b rfl
theorem Own.bounds {w : World} {base : Nat} {A : Option Addr} {n c : Nat} {zs : List Int} (h : Own w base (.slice A n c) zs) : n ≤ c ∧ c ≤ 9223372036854775807 := by
  obtain ⟨_, _, e, h1, h2⟩ := h.form
  injection e with e1 e2 e3
  subst e3
  unfold maxLen at h2
  omega
attribute [irreducible] Own
/-- A row of one's own is handed back. -/
def Made (w : World) (zs : List Int) (e : Ending) (w' : World) : Prop := ∃ A c, e = .returned (.slice A zs.length c) ∧ Own w' w.heap.size (.slice A zs.length c) zs ∧ Below w.heap.size w w'
theorem eql_nil (w : World) (a : Option Addr) (n c : Nat) : (binOp .eql 36 (.slice a n c) (.slice none 0 0)).run Tryz.prog w = .ok (.bool a.isNone) w := Lib.run_eql_slice_nil w 36 3 a n c 0 0 Tryz.underlying36
/-- slices.Clone. -/
theorem clone (A : Option Addr) (n c : Nat) (zs : List Int) (w : World) (hr : Hid (Row w A zs)) (hn : Hid (n = zs.length)) (hm : zs.length ≤ 900) : Calls Tryz.prog 92 #[.slice A n c] w (Made w zs) := by
  cases A with
  | none =>
    obtain rfl := hr.out.empty
    go_enter Tryz.func92, Tryz.ntmps92
    have hq := eql_nil
    go_wp2_with fail
    go_ret
    exact ⟨_, _, rfl, Own.nil _ _, by go_grown⟩
  | some ad =>
    go_enter Tryz.func92, Tryz.ntmps92
    have hq := eql_nil
    go_wp2_with (at_builtin; refine wpList_app _ rfl _ _ rfl w.heap.size _ [] rfl (Own.made _ _ (by simp) w.heap.size (Nat.le_refl _) (heap_alloc_new w _)) _ zs _ c rfl hn.out (hr.out.below ((Below.refl _ _).alloc (Nat.le_refl _) _)) (by simp; omega) (by simp) ?_; intro v1 w1 hown1 hb1)
    obtain ⟨A1, c1, rfl, _⟩ := hown1.form
    go_wp2_with fail
    go_ret
    exact ⟨_, _, rfl, hown1, ((Below.refl _ _).alloc (Nat.le_refl _) _).trans hb1⟩
/-- Of the nodes below k those other than self that zs holds, rising. -/
def br (self : Int) (zs : List Int) : Nat → List Int
  | 0 => []
  | k + 1 => if ¬ (k : Int) = self ∧ (k : Int) ∈ zs then br self zs k ++ [(k : Int)] else br self zs k
theorem br_len (self : Int) (zs : List Int) : ∀ k, (br self zs k).length ≤ k
  | 0 => Nat.le_refl _
  | k + 1 => by have := br_len self zs k; unfold br; split <;> simp <;> omega
theorem br_yes {self : Int} {zs : List Int} {k : Nat} (h1 : ¬ (k : Int) = self) (h2 : (k : Int) ∈ zs) : br self zs (k + 1) = br self zs k ++ [(k : Int)] := by simp [br, h1, h2]
theorem br_no {self : Int} {zs : List Int} {k : Nat} (h : ¬ (¬ (k : Int) = self ∧ (k : Int) ∈ zs)) : br self zs (k + 1) = br self zs k := by rw [br, if_neg h]
theorem Row.one (w : World) (x : Int) (t : TypeId) : Row (w.alloc (.cells #[.int .i64 x] t)) (some ⟨w.heap.size, 0, none⟩) [x] := by
  intro j y hy
  refine ⟨_, _, rfl, ?_⟩
  rw [World.cell?_alloc_new]
  cases j with
  | zero => simpa using hy
  | succ j => simp at hy
set_option maxHeartbeats 2000000 in
/-- (*Order).brought. -/
theorem brought (g : Nat) (self : Int) (A : Option Addr) (n c : Nat) (zs : List Int) (w : World) (hg : Hid (w.cell? ⟨g, 0, none⟩ = some (.int .i64 self))) (hr : Hid (Row w A zs)) (hn : Hid (n = zs.length)) (hm : n ≤ 9223372036854775807) :
    Calls Tryz.prog 74 #[.pointer (some ⟨g, 0, none⟩), .slice A n c] w (Made w (br self zs 8)) := by
  have hgz : g < w.heap.size := World.block_lt_of_cell? w _ hg.out
  go_enter Tryz.func74, Tryz.ntmps74
  go_wp2_with fail
  go_loopw [5, 7] (fun v i wr => ∃ k : Nat, k ≤ 8 ∧ i = .int .i64 (k : Int) ∧ Own wr w.heap.size v (br self zs k) ∧ Below w.heap.size w wr) (fun _ i _ => 8 - (intOf i).toNat)
  case atStart => exact ⟨0, by omega, rfl, Own.nil _ _, Below.refl _ _⟩
  case round =>
    obtain ⟨k, hk, rfl, hown, hbl⟩ := hrel
    obtain ⟨A0, c0, rfl, _⟩ := hown.form
    have hbk := br_len self zs k
    by_cases hlt : k < 8
    · have hcg : wr.cell? ⟨g, 0, none⟩ = some (.int .i64 self) := (hbl.cell (p := ⟨g, 0, none⟩) hgz).trans hg.out
      by_cases he : (k : Int) = self
      · have E := br_no (zs := zs) (k := k) (self := self) (fun h => h.1 he)
        go_wp2_with fail
        go_roundw
        case rel => exact ⟨k + 1, by omega, by go_num, by rw [E]; exact hown, hbl⟩
        case measure => simp [intOf]; omega
      · obtain ⟨q, hq⟩ : ∃ q, q = decide ((k : Int) ∈ zs) := ⟨_, rfl⟩
        have hq' := Hid.mk_ hq
        clear hq
        have hown' := Hid.mk_ hown
        clear hown
        cases q with
        | true =>
          go_wp2_with fail
          refine Calls.cells (contains A n c zs (k : Int) _ (hr.out.below hbl) hn hm true hq') ?_
          intro w2 hb2 hc2
          have B2 := hbl.trans (hb2.mono hbl.size)
          have hown2 := hown'.out.keep hb2
          go_wp2_with (at_builtin; refine wpList_app _ rfl _ _ rfl w.heap.size _ (br self zs k) rfl (hown2.keep ((Below.refl _ _).alloc (Nat.le_refl _) _)) _ [(k : Int)] 1 _ rfl rfl (Row.one _ _ _) (by simp; omega) (by have := B2.size; simp; omega) ?_; intro v3 w3 hown3 hb3)
          obtain ⟨A3, c3, rfl, _⟩ := hown3.form
          have E := br_yes (zs := zs) (k := k) (self := self) he (by simpa using hq'.out)
          go_roundw
          case rel => exact ⟨k + 1, by omega, by go_num, by rw [E]; exact hown3, (B2.alloc B2.size _).trans hb3⟩
          case measure => simp [intOf]; omega
        | false =>
          go_wp2_with fail
          refine Calls.cells (contains A n c zs (k : Int) _ (hr.out.below hbl) hn hm false hq') ?_
          intro w2 hb2 hc2
          have B2 := hbl.trans (hb2.mono hbl.size)
          have hown2 := hown'.out.keep hb2
          have E := br_no (zs := zs) (k := k) (self := self) (fun h => by simpa [h.2] using hq'.out)
          go_wp2_with fail
          go_roundw
          case rel => exact ⟨k + 1, by omega, by go_num, by rw [E]; exact hown2, B2⟩
          case measure => simp [intOf]; omega
    · obtain rfl : k = 8 := by omega
      go_wp2_with fail
      go_ret
      exact ⟨_, _, rfl, hown, hbl⟩
end Go.Proofs.YthndjhocmpelcaaGreat.Prb
namespace Go.Proofs.YthndjhocmpelcaaGreat.Prb
open Go.RowKit Kit
set_option linter.unusedVariables false
def stepX (x : Int) : Int := IntKind.u64.wrap (IntKind.u64.wrap (6364136223846793005 * x) + 1442695040888963407)
theorem stepX_nonneg (x : Int) : 0 ≤ stepX x := by unfold stepX; rw [IntKind.wrap_u64]; omega
def kOf (x : Int) (i : Nat) : Nat := ((x / 8589934592) % ((i : Int) + 1)).toNat
theorem kOf_le (x : Int) (i : Nat) : kOf x i ≤ i := by
  unfold kOf
  have h1 : 0 ≤ (x / 8589934592) % ((i : Int) + 1) := Int.emod_nonneg _ (by omega)
  have h2 : (x / 8589934592) % ((i : Int) + 1) < (i : Int) + 1 := Int.emod_lt_of_pos _ (by omega)
  omega
theorem kOf_eq (x : Int) (i : Nat) (hx : 0 ≤ x) (hi : i ≤ 1000) : wrap64 ((x / 8589934592).tmod ((i : Int) + 1)) = (kOf x i : Int) := by
  have h : 0 ≤ x / 8589934592 := Int.ediv_nonneg hx (by omega)
  unfold kOf
  rw [Int.tmod_eq_emod_of_nonneg h]
  have h1 : 0 ≤ (x / 8589934592) % ((i : Int) + 1) := Int.emod_nonneg _ (by omega)
  have h2 : (x / 8589934592) % ((i : Int) + 1) < (i : Int) + 1 := Int.emod_lt_of_pos _ (by omega)
  generalize (x / 8589934592) % ((i : Int) + 1) = r at h1 h2
  unfold wrap64
  omega
theorem kOf_eq2 (x : Int) (m : Nat) (hx : 0 ≤ x) (hi : m ≤ 900) : wrap64 ((x / 8589934592).tmod ((m : Int) + 2)) = (kOf x (m + 1) : Int) := by
  rw [← kOf_eq x (m + 1) hx (by omega), show ((m + 1 : Nat) : Int) + 1 = (m : Int) + 2 by omega]
def swp (l : List Int) (i k : Nat) : List Int := (l.set i (l[k]?.getD 0)).set k (l[i]?.getD 0)
theorem swp_len (l : List Int) (i k : Nat) : (swp l i k).length = l.length := by simp [swp]
/-- From place m - 1 down, each is swapped with one ahead of it, or itself. -/
def shuf : Nat → Int → List Int → List Int
  | m + 2, x, l => shuf (m + 1) (stepX x) (swp l (m + 1) (kOf (stepX x) (m + 1)))
  | 1, _, l => l
  | 0, _, l => l
theorem shuf_len : ∀ (m : Nat) (x : Int) (l : List Int), (shuf m x l).length = l.length
  | m + 2, x, l => by rw [shuf, shuf_len (m + 1), swp_len]
  | 1, _, l => rfl
  | 0, _, l => rfl
set_option maxHeartbeats 2000000 in
theorem shuffle0 (A : Option Addr) (n c : Nat) (zs : List Int) (d : Int) (w : World) (hr : Hid (Row w A zs)) (hn : Hid (n = zs.length)) (hm : n ≤ 64) (hc : n ≤ c) (hd : Hid (0 ≤ d)) :
    Calls Tryz.prog 72 #[.slice A n c, .int .u64 d] w (Made w (shuf n d zs)) := by
  have h0 : (0 : Int) ≤ (n : Int) := by omega
  have h1 : (n : Int) ≤ (c : Int) := by omega
  go_enter Tryz.func72, Tryz.ntmps72
  go_wp2_with fail
  refine (clone A n c zs _ hr hn (by have := hn.out; omega)).mono ?_
  rintro e w1 ⟨A1, c1, rfl, hown, hb1⟩
  obtain ⟨_, _, e1, hc1, hc1'⟩ := hown.form
  injection e1 with e1 e2 e3
  subst e1 e3
  clear e2
  have nn : zs.length ≤ 64 := by have := hn.out; omega
  unfold maxLen at hc1'
  go_wp2_with fail
  go_loopw [6, 7] (fun x i wr => ∃ (m : Nat) (x0 : Int) (l : List Int), i = .int .i64 ((m : Int) - 1) ∧ x = .int .u64 x0 ∧ m ≤ zs.length ∧ Hid (0 ≤ x0) ∧ Hid (l.length = zs.length) ∧ Hid (Own wr w.heap.size (.slice A1 zs.length c1) l) ∧ Hid (Below w.heap.size w wr) ∧ Hid (shuf m x0 l = shuf n d zs)) (fun _ i _ => (intOf i).toNat)
  case atStart => exact ⟨zs.length, d, zs, rfl, rfl, by omega, hd, Hid.mk_ rfl, Hid.mk_ hown, Hid.mk_ hb1, Hid.mk_ (by rw [← hn.out])⟩
  case round =>
    obtain ⟨m, x0, l, rfl, rfl, hmz, hx0, hlz, hown, hbl, hsh⟩ := hrel
    by_cases hlt : 2 ≤ m
    · obtain ⟨m, rfl⟩ : ∃ k, m = k + 2 := ⟨m - 2, by omega⟩
      go_upto_region 8 with fail
      obtain ⟨g, rfl, hg, hgz, hcell⟩ := Own.some_ hown.out (by have := hlz.out; omega)
      rw [show IntKind.u64.wrap (IntKind.u64.wrap (6364136223846793005 * x0) + 1442695040888963407) = stepX x0 from rfl, kOf_eq2 (stepX x0) m (stepX_nonneg x0) (by omega)]
      have hs2 : shuf (m + 2) x0 l = shuf (m + 1) (stepX x0) (swp l (m + 1) (kOf (stepX x0) (m + 1))) := rfl
      rw [hs2] at hsh
      have hkm := kOf_le (stepX x0) (m + 1)
      have hx1 := Hid.mk_ (stepX_nonneg x0)
      generalize kOf (stepX x0) (m + 1) = k at hsh hkm
      generalize stepX x0 = x1 at hsh hx1
      obtain ⟨y, hy⟩ : ∃ y, l[m + 1]? = some y := ⟨_, List.getElem?_eq_getElem (by have := hlz.out; omega)⟩
      obtain ⟨z, hz⟩ : ∃ z, l[k]? = some z := ⟨_, List.getElem?_eq_getElem (by have := hlz.out; omega)⟩
      obtain ⟨c1y, f1⟩ := hcell _ _ hy
      obtain ⟨c1z, f2⟩ := hcell _ _ hz
      have HY := Hid.mk_ hy
      have HZ := Hid.mk_ hz
      clear hy hz hcell hs2
      have em : ((m + 2 : Nat) : Int) - 1 = (m : Int) + 1 := by omega
      rw [em]
      have lt1 : (m : Int) + 1 < (zs.length : Int) := by omega
      have lt2 : (k : Int) < (zs.length : Int) := by omega
      have lt3 : (0 : Int) ≤ (m : Int) + 1 := by omega
      have lt4 : (0 : Int) ≤ (k : Int) := by omega
      obtain ⟨O1, B1⟩ := hown.out.set (m + 1) z
      obtain ⟨u, hu⟩ : ∃ u, (l.set (m + 1) z)[k]? = some u := ⟨_, List.getElem?_eq_getElem (by have := hlz.out; rw [List.length_set]; omega)⟩
      obtain ⟨g', e1, _, _, hcell⟩ := Own.some_ O1 (by have := hlz.out; rw [List.length_set]; omega)
      injection e1 with e1
      injection e1 with e1
      subst e1
      obtain ⟨c3, f3⟩ := hcell _ _ hu
      have O2 := Hid.mk_ (O1.set k y)
      clear hcell O1 hu
      have B1' := Hid.mk_ B1
      clear B1
      go_region
      have hsw : swp l (m + 1) k = (l.set (m + 1) z).set k y := by
        unfold swp
        rw [HY.out, HZ.out]
        rfl
      rw [hsw] at hsh
      have L2 := hlz.out
      clear hx0 HY HZ c1y f1 c1z f2 c3 f3
      go_wp2_with fail
      go_roundw
      case rel => exact ⟨m + 1, x1, _, by go_num, rfl, by omega, hx1, Hid.mk_ (by simpa using L2), Hid.mk_ O2.out.1.drew, Hid.mk_ (hbl.out.trans (B1'.out.trans O2.out.2.drew)), hsh⟩
      case measure => simp [intOf]; omega
    · go_wp2_with fail
      go_ret
      have e : shuf m x0 l = l := by
        have : m = 0 ∨ m = 1 := by omega
        rcases this with rfl | rfl <;> rfl
      have hsh := hsh.out
      rw [e] at hsh
      rw [← hsh]
      have := hlz.out
      refine ⟨A1, c1, by rw [this]; rfl, by rw [this]; exact hown.out, hbl.out⟩
set_option maxHeartbeats 2000000 in
theorem shuffle64 (A : Option Addr) (n0 c : Nat) (zs : List Int) (d : Int) (w : World) (hr : Hid (Row w A zs)) (hn : Hid (64 = zs.length)) (hm : 64 < n0) (hm' : n0 ≤ 9223372036854775807) (hc : n0 ≤ c) (hd : Hid (0 ≤ d)) :
    Calls Tryz.prog 72 #[.slice A n0 c, .int .u64 d] w (Made w (shuf 64 d zs)) := by
  have h0 : (64 : Int) < (n0 : Int) := by omega
  have h1 : (64 : Int) ≤ (c : Int) := by omega
  go_enter Tryz.func72, Tryz.ntmps72
  go_wp2_with fail
  refine (clone A 64 c zs _ hr hn (by have := hn.out; omega)).mono ?_
  rintro e w1 ⟨A1, c1, rfl, hown, hb1⟩
  obtain ⟨_, _, e1, hc1, hc1'⟩ := hown.form
  injection e1 with e1 e2 e3
  subst e1 e3
  clear e2
  have nn : zs.length ≤ 64 := by have := hn.out; omega
  unfold maxLen at hc1'
  go_wp2_with fail
  go_loopw [6, 7] (fun x i wr => ∃ (m : Nat) (x0 : Int) (l : List Int), i = .int .i64 ((m : Int) - 1) ∧ x = .int .u64 x0 ∧ m ≤ zs.length ∧ Hid (0 ≤ x0) ∧ Hid (l.length = zs.length) ∧ Hid (Own wr w.heap.size (.slice A1 zs.length c1) l) ∧ Hid (Below w.heap.size w wr) ∧ Hid (shuf m x0 l = shuf 64 d zs)) (fun _ i _ => (intOf i).toNat)
  case atStart => exact ⟨zs.length, d, zs, rfl, rfl, by omega, hd, Hid.mk_ rfl, Hid.mk_ hown, Hid.mk_ hb1, Hid.mk_ (by rw [← hn.out])⟩
  case round =>
    obtain ⟨m, x0, l, rfl, rfl, hmz, hx0, hlz, hown, hbl, hsh⟩ := hrel
    by_cases hlt : 2 ≤ m
    · obtain ⟨m, rfl⟩ : ∃ k, m = k + 2 := ⟨m - 2, by omega⟩
      go_upto_region 8 with fail
      obtain ⟨g, rfl, hg, hgz, hcell⟩ := Own.some_ hown.out (by have := hlz.out; omega)
      rw [show IntKind.u64.wrap (IntKind.u64.wrap (6364136223846793005 * x0) + 1442695040888963407) = stepX x0 from rfl, kOf_eq2 (stepX x0) m (stepX_nonneg x0) (by omega)]
      have hs2 : shuf (m + 2) x0 l = shuf (m + 1) (stepX x0) (swp l (m + 1) (kOf (stepX x0) (m + 1))) := rfl
      rw [hs2] at hsh
      have hkm := kOf_le (stepX x0) (m + 1)
      have hx1 := Hid.mk_ (stepX_nonneg x0)
      generalize kOf (stepX x0) (m + 1) = k at hsh hkm
      generalize stepX x0 = x1 at hsh hx1
      obtain ⟨y, hy⟩ : ∃ y, l[m + 1]? = some y := ⟨_, List.getElem?_eq_getElem (by have := hlz.out; omega)⟩
      obtain ⟨z, hz⟩ : ∃ z, l[k]? = some z := ⟨_, List.getElem?_eq_getElem (by have := hlz.out; omega)⟩
      obtain ⟨c1y, f1⟩ := hcell _ _ hy
      obtain ⟨c1z, f2⟩ := hcell _ _ hz
      have HY := Hid.mk_ hy
      have HZ := Hid.mk_ hz
      clear hy hz hcell hs2
      have em : ((m + 2 : Nat) : Int) - 1 = (m : Int) + 1 := by omega
      rw [em]
      have lt1 : (m : Int) + 1 < (zs.length : Int) := by omega
      have lt2 : (k : Int) < (zs.length : Int) := by omega
      have lt3 : (0 : Int) ≤ (m : Int) + 1 := by omega
      have lt4 : (0 : Int) ≤ (k : Int) := by omega
      obtain ⟨O1, B1⟩ := hown.out.set (m + 1) z
      obtain ⟨u, hu⟩ : ∃ u, (l.set (m + 1) z)[k]? = some u := ⟨_, List.getElem?_eq_getElem (by have := hlz.out; rw [List.length_set]; omega)⟩
      obtain ⟨g', e1, _, _, hcell⟩ := Own.some_ O1 (by have := hlz.out; rw [List.length_set]; omega)
      injection e1 with e1
      injection e1 with e1
      subst e1
      obtain ⟨c3, f3⟩ := hcell _ _ hu
      have O2 := Hid.mk_ (O1.set k y)
      clear hcell O1 hu
      have B1' := Hid.mk_ B1
      clear B1
      go_region
      have hsw : swp l (m + 1) k = (l.set (m + 1) z).set k y := by
        unfold swp
        rw [HY.out, HZ.out]
        rfl
      rw [hsw] at hsh
      have L2 := hlz.out
      clear hx0 HY HZ c1y f1 c1z f2 c3 f3
      go_wp2_with fail
      go_roundw
      case rel => exact ⟨m + 1, x1, _, by go_num, rfl, by omega, hx1, Hid.mk_ (by simpa using L2), Hid.mk_ O2.out.1.drew, Hid.mk_ (hbl.out.trans (B1'.out.trans O2.out.2.drew)), hsh⟩
      case measure => simp [intOf]; omega
    · go_wp2_with fail
      go_ret
      have e : shuf m x0 l = l := by
        have : m = 0 ∨ m = 1 := by omega
        rcases this with rfl | rfl <;> rfl
      have hsh := hsh.out
      rw [e] at hsh
      rw [← hsh]
      have := hlz.out
      refine ⟨A1, c1, by rw [this]; rfl, by rw [this]; exact hown.out, hbl.out⟩
theorem Row.take {w : World} {A : Option Addr} {zs : List Int} (h : Row w A zs) (k : Nat) : Row w A (zs.take k) := by
  intro i c hi
  rw [List.getElem?_take] at hi
  split at hi
  · exact h i c hi
  · cases hi
/-- Shuffle: of more than 64 the first 64. -/
theorem shuffle (A : Option Addr) (n c : Nat) (zs : List Int) (d : Int) (w : World) (hr : Hid (Row w A zs)) (hn : Hid (n = zs.length)) (hm : n ≤ 9223372036854775807) (hc : n ≤ c) (hd : Hid (0 ≤ d)) :
    Calls Tryz.prog 72 #[.slice A n c, .int .u64 d] w (Made w (shuf (zs.take 64).length d (zs.take 64))) := by
  have h := hn.out
  by_cases h64 : 64 < n
  · have := shuffle64 A n c (zs.take 64) d w (Hid.mk_ (hr.out.take 64)) (Hid.mk_ (by simp; omega)) h64 hm hc hd
    rwa [show (zs.take 64).length = 64 by simp; omega]
  · rw [List.take_of_length_le (by omega), ← h]
    exact shuffle0 A n c zs d w hr hn (by omega) hc hd
theorem shuffle8 (A : Option Addr) (n c : Nat) (zs : List Int) (d : Int) (w : World) (hr : Hid (Row w A zs)) (hn : Hid (n = zs.length)) (hm : n ≤ 64) (hc : n ≤ c) (hd : Hid (0 ≤ d)) :
    Calls Tryz.prog 72 #[.slice A n c, .int .u64 d] w (Made w (shuf zs.length d zs)) := by
  have := hn.out
  have h := shuffle A n c zs d w hr hn (by omega) hc hd
  rwa [List.take_of_length_le (by omega)] at h
end Go.Proofs.YthndjhocmpelcaaGreat.Prb
