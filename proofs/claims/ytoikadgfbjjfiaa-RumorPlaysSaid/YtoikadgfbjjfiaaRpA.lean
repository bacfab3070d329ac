/- Chapter 3: claims that are to be told in a row: words; what is ahead of what, two places changed. Conditions: the row lies in a block of its own. -/
import Derived.Test.YtoikadgfbjjfiaaProg
import Derived.Test.YtoikadgfbjjfiaaKit
import Derived.Test.YtoikadgfbjjfiaaReads
import Derived.Test.YtoikadgfbjjfiaaHeap
import Derived.Test.YtoikadgfbjjfiaaWLast
import Derived.WalkKit
import Derived.OwnWalk
import Derived.Deep.LoopGhost
import Derived.Deep.Cut
import Derived.Deep.RegionHeld3
import Derived.BigRegion
import Derived.LoopN
namespace Go.Proofs.Ytoikadgfbjjfiaa.Rum
open Go.RowKit Kit Go.Proofs.YtoikadgfbjjfiaaW.PrintLast
set_option linter.unusedVariables false
theorem Hid.mk_ {p : Prop} (h : p) : Hid p := h
theorem any_take {P : Program} {ops : Array Oper} {Q : Exit → Act → World → Prop} {md : Region.Mode} {S : World → Prop} {ds : List Nat} {i : Nat} {oi : Oper} {v : Value} {fuel : Nat} {l : Array Bool} {a : Act} {w : World} (hi : ops[i]? = some oi) (h1 : Region.noSelect ops = true) (h2 : Region.free md ops l i = true) (h3 : (Region.ready md ops l).contains i = true)
    (hQ : ∀ c a w, Q (.panic c) (a.put oi.dst v) w → Q (.panic c) a w) (hy : Yields P ops oi v a)
    (h : wpAnyLast P md ops Q S ds fuel (l.setIfInBounds i true) (a.put oi.dst v) w) : wpAnyLast P md ops Q S ds (fuel + 1) l a w :=
  wpAnyLast_any hi (Region.noSelect_spec h1) hQ fuel l a w (Region.free_spec hi h2) (by simpa using h3) hy h
structure Tld where
  node : Int
  inc : Int
  hl : Int
  n : Int
instance : DecidableEq Tld := fun a b => if h : a.node = b.node ∧ a.inc = b.inc ∧ a.hl = b.hl ∧ a.n = b.n then .isTrue (by cases a; cases b; simp_all) else .isFalse (fun e => h (by rw [e]; exact ⟨rfl, rfl, rfl, rfl⟩))
instance : Inhabited Tld := ⟨⟨0, 0, 0, 0⟩⟩
def ltT (a b : Tld) : Bool := if a.n = b.n then decide (a.node < b.node) else decide (a.n < b.n)
/-- The claims that are to be told hs lie from block b on; their cells may be written. -/
def TAt (w : World) (b : Nat) (hs : List Tld) : Prop := ∀ (j : Nat) (m : Tld), hs[j]? = some m →
  (w.cell? ⟨b, j * 4, none⟩ = some (.int .i64 m.node) ∧ w.cell? ⟨b, j * 4 + 1, none⟩ = some (.int .i64 m.inc) ∧ w.cell? ⟨b, j * 4 + 2, none⟩ = some (.int .i64 m.hl) ∧ w.cell? ⟨b, j * 4 + 3, none⟩ = some (.int .i64 m.n)) ∧
  w.frozen? ⟨b, j * 4, none⟩ = false ∧ w.frozen? ⟨b, j * 4 + 1, none⟩ = false ∧ w.frozen? ⟨b, j * 4 + 2, none⟩ = false ∧ w.frozen? ⟨b, j * 4 + 3, none⟩ = false
set_option maxHeartbeats 2000000 in
theorem less (b n c i k : Nat) (x y : Tld) (hs : List Tld) (w : World) (hm : Hid (TAt w b hs)) (hi : Hid (hs[i]? = some x)) (hk : Hid (hs[k]? = some y)) (hin : i < n) (hkn : k < n) (hn : n ≤ 1000000) (q : Bool) (hq : Hid (q = ltT x y)) :
    Calls Try.prog 84 #[.slice (some ⟨b, 0, none⟩) n c, .int .i64 (i : Int), .int .i64 (k : Int)] w fun e w' => e = .returned (.bool q) ∧ Below w.heap.size w w' := by
  obtain ⟨⟨x0, _, _, x1⟩, _⟩ := hm.out i x hi.out
  obtain ⟨⟨y0, _, _, y1⟩, _⟩ := hm.out k y hk.out
  have i0 : (0 : Int) ≤ (i : Int) := by omega
  have i1 : (i : Int) < (n : Int) := by omega
  have k0 : (0 : Int) ≤ (k : Int) := by omega
  have k1 : (k : Int) < (n : Int) := by omega
  by_cases h : x.n = y.n
  · have hb : (x.n != y.n) = false := by simp [h]
    go_enter Try.func84, Try.ntmps84
    go_wp2_with fail
    go_region
    go_wp2_with fail
    go_region
    go_wp2_with fail
    go_ret
    exact ⟨by rw [hq.out]; simp [ltT, h], (Below.refl _ _).drew.drew⟩
  · have hb : (x.n != y.n) = true := by simp [h]
    go_enter Try.func84, Try.ntmps84
    go_wp2_with fail
    go_region
    go_wp2_with fail
    go_region
    go_wp2_with fail
    go_ret
    exact ⟨by rw [hq.out]; simp [ltT, h], (Below.refl _ _).drew.drew⟩
def cellsT (hs : List Tld) : List Value := hs.flatMap fun m => [.int .i64 m.node, .int .i64 m.inc, .int .i64 m.hl, .int .i64 m.n]
theorem cells_len : ∀ hs : List Tld, (cellsT hs).length = hs.length * 4
  | [] => rfl
  | m :: l => by rw [cellsT, List.flatMap_cons, List.length_append, ← cellsT, cells_len l]; simp; omega
theorem cells_get : ∀ (hs : List Tld) (j : Nat) (m : Tld), hs[j]? = some m → (cellsT hs)[j * 4]? = some (.int .i64 m.node) ∧ (cellsT hs)[j * 4 + 1]? = some (.int .i64 m.inc) ∧ (cellsT hs)[j * 4 + 2]? = some (.int .i64 m.hl) ∧ (cellsT hs)[j * 4 + 3]? = some (.int .i64 m.n)
  | a :: l, 0, m, h => by
    obtain rfl : a = m := by simpa using h
    exact ⟨rfl, rfl, rfl, rfl⟩
  | a :: l, j + 1, m, h => by
    have := cells_get l j m (by simpa using h)
    rw [show (j + 1) * 4 = j * 4 + 4 by omega]
    exact this
theorem cells_set : ∀ (hs : List Tld) (j : Nat) (m : Tld), cellsT (hs.set j m) = ((((cellsT hs).set (j * 4) (.int .i64 m.node)).set (j * 4 + 1) (.int .i64 m.inc)).set (j * 4 + 2) (.int .i64 m.hl)).set (j * 4 + 3) (.int .i64 m.n)
  | [], j, m => by simp [cellsT]
  | a :: l, 0, m => rfl
  | a :: l, j + 1, m => by
    have := cells_set l j m
    rw [show (j + 1) * 4 = j * 4 + 4 by omega]
    show _ :: _ :: _ :: _ :: cellsT (l.set j m) = _
    rw [this]
    rfl
theorem cells_one (hs : List Tld) : ∀ u ∈ cellsT hs, u.oneCell' = true := by
  intro u hu
  obtain ⟨m, _, h⟩ := List.mem_flatMap.1 hu
  simp only [List.mem_cons, List.not_mem_nil, or_false] at h
  rcases h with rfl | rfl | rfl | rfl <;> rfl
theorem cells_append (xs ys : List Tld) : cellsT (xs ++ ys) = cellsT xs ++ cellsT ys := by simp [cellsT]
/-- v is a row of one's own that holds hs. -/
def OwnT (w : World) (base : Nat) (v : Value) (hs : List Tld) : Prop := w.ownsRow base 93 4 v hs.length (cellsT hs)
theorem OwnT.at_ {w : World} {base b n c : Nat} {hs : List Tld} (h : OwnT w base (.slice (some ⟨b, 0, none⟩) n c) hs) : TAt w b hs := by
  have hn : n = hs.length := by
    rcases h.2 with ⟨h1, h2⟩ | ⟨g, cap, cur, h1, _⟩
    · cases h1
    · injection h1
  subst hn
  intro j m hj
  have hlt := (List.getElem?_eq_some_iff.1 hj).1
  obtain ⟨c0, c1, c2, c3⟩ := cells_get hs j m hj
  refine ⟨⟨?_, ?_, ?_, ?_⟩, World.ownsRow.frozenAt h _, World.ownsRow.frozenAt h _, World.ownsRow.frozenAt h _, World.ownsRow.frozenAt h _⟩
  · rw [World.ownsRow.cellAt h (j * 4) (by omega), c0]
  · rw [World.ownsRow.cellAt h (j * 4 + 1) (by omega), c1]
  · rw [World.ownsRow.cellAt h (j * 4 + 2) (by omega), c2]
  · rw [World.ownsRow.cellAt h (j * 4 + 3) (by omega), c3]
theorem gb_trans {a b c : World} {row : Option Nat} (h : a.grownBy b row) (k : b.grownBy c row) : a.grownBy c row :=
  ⟨k.os.trans h.os, k.tape.trans h.tape, k.output.trans h.output, Nat.le_trans h.size k.size, fun i hi hne => (k.block i (Nat.lt_of_lt_of_le hi h.size) hne).trans (h.block i hi hne)⟩
theorem gb_drew {a b : World} {row : Option Nat} (h : a.grownBy b row) : a.grownBy b.drew row := ⟨h.os, h.tape, h.output, h.size, h.block⟩
theorem OwnT.set {w : World} {base b n c : Nat} {hs : List Tld} (h : OwnT w base (.slice (some ⟨b, 0, none⟩) n c) hs) (j : Nat) (m : Tld) :
    OwnT ((((w.setCell ⟨b, j * 4, none⟩ (.int .i64 m.node)).setCell ⟨b, j * 4 + 1, none⟩ (.int .i64 m.inc)).setCell ⟨b, j * 4 + 2, none⟩ (.int .i64 m.hl)).setCell ⟨b, j * 4 + 3, none⟩ (.int .i64 m.n)) base (.slice (some ⟨b, 0, none⟩) n c) (hs.set j m) ∧ w.grownBy ((((w.setCell ⟨b, j * 4, none⟩ (.int .i64 m.node)).setCell ⟨b, j * 4 + 1, none⟩ (.int .i64 m.inc)).setCell ⟨b, j * 4 + 2, none⟩ (.int .i64 m.hl)).setCell ⟨b, j * 4 + 3, none⟩ (.int .i64 m.n)) (some b) := by
  have hn : n = hs.length := by
    rcases h.2 with ⟨h1, h2⟩ | ⟨g, cap, cur, h1, _⟩
    · cases h1
    · injection h1
  subst hn
  have h1 := World.ownsRow.stored h (j * 4) (.int .i64 m.node)
  have h2 := World.ownsRow.stored h1.1 (j * 4 + 1) (.int .i64 m.inc)
  have h3 := World.ownsRow.stored h2.1 (j * 4 + 2) (.int .i64 m.hl)
  have h4 := World.ownsRow.stored h3.1 (j * 4 + 3) (.int .i64 m.n)
  refine ⟨?_, gb_trans (gb_trans (gb_trans h1.2 h2.2) h3.2) h4.2⟩
  unfold OwnT
  rw [cells_set, List.length_set]
  exact h4.1
set_option maxHeartbeats 2000000 in
theorem swap0 (base b n c i k : Nat) (x y : Tld) (hs : List Tld) (w : World) (hm : Hid (OwnT w base (.slice (some ⟨b, 0, none⟩) n c) hs)) (hi : Hid (hs[i]? = some x)) (hk : Hid (hs[k]? = some y)) (hin : i < n) (hkn : k < n) (hn : n ≤ 1000000) :
    Calls Try.prog 85 #[.slice (some ⟨b, 0, none⟩) n c, .int .i64 (i : Int), .int .i64 (k : Int)] w fun e w' => e = .returned (.tuple #[]) ∧ OwnT w' base (.slice (some ⟨b, 0, none⟩) n c) ((hs.set i y).set k x) ∧ w.grownBy w' (some b) := by
  obtain ⟨⟨x0, x1, x2, x3⟩, xf, xg, xh, xi⟩ := hm.out.at_ i x hi.out
  obtain ⟨⟨y0, y1, y2, y3⟩, yf, yg, yh, yi⟩ := hm.out.at_ k y hk.out
  have i0 : (0 : Int) ≤ (i : Int) := by omega
  have i1 : (i : Int) < (n : Int) := by omega
  have k0 : (0 : Int) ≤ (k : Int) := by omega
  have k1 : (k : Int) < (n : Int) := by omega
  go_enter Try.func85, Try.ntmps85
  go_wp2_with fail
  refine wp_region_last_drew (S := fun w' => (w'.cell? ⟨b, i * 4, none⟩ = some (.int .i64 x.node) ∧ w'.cell? ⟨b, i * 4 + 1, none⟩ = some (.int .i64 x.inc) ∧ w'.cell? ⟨b, i * 4 + 2, none⟩ = some (.int .i64 x.hl) ∧ w'.cell? ⟨b, i * 4 + 3, none⟩ = some (.int .i64 x.n)) ∧ w'.cell? ⟨b, k * 4, none⟩ = some (.int .i64 y.node) ∧ w'.cell? ⟨b, k * 4 + 1, none⟩ = some (.int .i64 y.inc) ∧ w'.cell? ⟨b, k * 4 + 2, none⟩ = some (.int .i64 y.hl) ∧ w'.cell? ⟨b, k * 4 + 3, none⟩ = some (.int .i64 y.n)) (ds := [13, 14, 15]) (by kernel_rfl) ⟨⟨x0, x1, x2, x3⟩, y0, y1, y2, y3⟩ (fun hHeld => ?_)
  refine' wpAnyLast_take (i := 0) (oi := _) (v := _) ?hi0 (by kernel_rfl) (by kernel_rfl) (by kernel_rfl) (by kernel_rfl) (by kernel_rfl) ?hQ0 (Or.inl ⟨?hw0, ?hy0⟩) (by assumption) ?rest0
  case hi0 => exact (by simp only [List.getElem?_toArray, List.getElem?_cons_zero]; rfl)
  case hQ0 => exact fun _ _ _ h => h
  case hw0 => rfl
  case hy0 =>
    intro w hSw
    try dsimp only at hSw
    go_simp
    all_goals with_reducible rfl
  try simp only [Act.put, List.setIfInBounds_toArray, List.set_cons_zero, List.set_cons_succ]
  refine' wpAnyLast_take (i := 1) (oi := _) (v := _) ?hi1 (by kernel_rfl) (by kernel_rfl) (by kernel_rfl) (by kernel_rfl) (by kernel_rfl) ?hQ1 (Or.inl ⟨?hw1, ?hy1⟩) (by assumption) ?rest1
  case hi1 => exact (by simp only [List.getElem?_toArray, List.getElem?_cons_zero, List.getElem?_cons_succ]; rfl)
  case hQ1 => exact fun _ _ _ h => h
  case hw1 => rfl
  case hy1 =>
    intro w hSw
    try dsimp only at hSw
    go_simp
    all_goals with_reducible rfl
  try simp only [Act.put, List.setIfInBounds_toArray, List.set_cons_zero, List.set_cons_succ]
  refine' any_take (i := 2) (oi := _) (v := _) ?hi2 (by kernel_rfl) (by kernel_rfl) (by kernel_rfl) ?hQ2 (Or.inl ⟨?hw2, ?hy2⟩) ?rest2
  case hi2 => exact (by simp only [List.getElem?_toArray, List.getElem?_cons_zero, List.getElem?_cons_succ]; rfl)
  case hQ2 => exact fun _ _ _ h => h
  case hw2 => rfl
  case hy2 =>
    intro w
    go_simp
    all_goals with_reducible rfl
  try simp only [Act.put, List.setIfInBounds_toArray, List.set_cons_zero, List.set_cons_succ]
  refine' any_take (i := 3) (oi := _) (v := _) ?hi3 (by kernel_rfl) (by kernel_rfl) (by kernel_rfl) ?hQ3 (Or.inl ⟨?hw3, ?hy3⟩) ?rest3
  case hi3 => exact (by simp only [List.getElem?_toArray, List.getElem?_cons_zero, List.getElem?_cons_succ]; rfl)
  case hQ3 => exact fun _ _ _ h => h
  case hw3 => rfl
  case hy3 =>
    intro w
    go_simp
    all_goals with_reducible rfl
  try simp only [Act.put, List.setIfInBounds_toArray, List.set_cons_zero, List.set_cons_succ]
  refine' wpAnyLast_take (i := 4) (oi := _) (v := _) ?hi4 (by kernel_rfl) (by kernel_rfl) (by kernel_rfl) (by kernel_rfl) (by kernel_rfl) ?hQ4 (Or.inl ⟨?hw4, ?hy4⟩) (by assumption) ?rest4
  case hi4 => exact (by simp only [List.getElem?_toArray, List.getElem?_cons_zero, List.getElem?_cons_succ]; rfl)
  case hQ4 => exact fun _ _ _ h => h
  case hw4 => rfl
  case hy4 =>
    intro w hSw
    try dsimp only at hSw
    go_simp
    all_goals with_reducible rfl
  try simp only [Act.put, List.setIfInBounds_toArray, List.set_cons_zero, List.set_cons_succ]
  refine' wpAnyLast_take (i := 5) (oi := _) (v := _) ?hi5 (by kernel_rfl) (by kernel_rfl) (by kernel_rfl) (by kernel_rfl) (by kernel_rfl) ?hQ5 (Or.inl ⟨?hw5, ?hy5⟩) (by assumption) ?rest5
  case hi5 => exact (by simp only [List.getElem?_toArray, List.getElem?_cons_zero, List.getElem?_cons_succ]; rfl)
  case hQ5 => exact fun _ _ _ h => h
  case hw5 => rfl
  case hy5 =>
    intro w hSw
    try dsimp only at hSw
    go_simp
    all_goals with_reducible rfl
  try simp only [Act.put, List.setIfInBounds_toArray, List.set_cons_zero, List.set_cons_succ]
  refine' wpAnyLast_take (i := 6) (oi := _) (v := _) ?hi6 (by kernel_rfl) (by kernel_rfl) (by kernel_rfl) (by kernel_rfl) (by kernel_rfl) ?hQ6 (Or.inl ⟨?hw6, ?hy6⟩) (by assumption) ?rest6
  case hi6 => exact (by simp only [List.getElem?_toArray, List.getElem?_cons_zero, List.getElem?_cons_succ]; rfl)
  case hQ6 => exact fun _ _ _ h => h
  case hw6 => rfl
  case hy6 =>
    intro w hSw
    try dsimp only at hSw
    go_simp
    all_goals with_reducible rfl
  try simp only [Act.put, List.setIfInBounds_toArray, List.set_cons_zero, List.set_cons_succ]
  refine' wpAnyLast_take (i := 7) (oi := _) (v := _) ?hi7 (by kernel_rfl) (by kernel_rfl) (by kernel_rfl) (by kernel_rfl) (by kernel_rfl) ?hQ7 (Or.inl ⟨?hw7, ?hy7⟩) (by assumption) ?rest7
  case hi7 => exact (by simp only [List.getElem?_toArray, List.getElem?_cons_zero, List.getElem?_cons_succ]; rfl)
  case hQ7 => exact fun _ _ _ h => h
  case hw7 => rfl
  case hy7 =>
    intro w hSw
    try dsimp only at hSw
    go_simp
    all_goals with_reducible rfl
  try simp only [Act.put, List.setIfInBounds_toArray, List.set_cons_zero, List.set_cons_succ]
  refine' any_take (i := 8) (oi := _) (v := _) ?hi8 (by kernel_rfl) (by kernel_rfl) (by kernel_rfl) ?hQ8 (Or.inl ⟨?hw8, ?hy8⟩) ?rest8
  case hi8 => exact (by simp only [List.getElem?_toArray, List.getElem?_cons_zero, List.getElem?_cons_succ]; rfl)
  case hQ8 => exact fun _ _ _ h => h
  case hw8 => rfl
  case hy8 =>
    intro w
    go_simp
    all_goals with_reducible rfl
  try simp only [Act.put, List.setIfInBounds_toArray, List.set_cons_zero, List.set_cons_succ]
  refine' any_take (i := 9) (oi := _) (v := _) ?hi9 (by kernel_rfl) (by kernel_rfl) (by kernel_rfl) ?hQ9 (Or.inl ⟨?hw9, ?hy9⟩) ?rest9
  case hi9 => exact (by simp only [List.getElem?_toArray, List.getElem?_cons_zero, List.getElem?_cons_succ]; rfl)
  case hQ9 => exact fun _ _ _ h => h
  case hw9 => rfl
  case hy9 =>
    intro w
    go_simp
    all_goals with_reducible rfl
  try simp only [Act.put, List.setIfInBounds_toArray, List.set_cons_zero, List.set_cons_succ]
  refine' any_take (i := 10) (oi := _) (v := _) ?hi10 (by kernel_rfl) (by kernel_rfl) (by kernel_rfl) ?hQ10 (Or.inl ⟨?hw10, ?hy10⟩) ?rest10
  case hi10 => exact (by simp only [List.getElem?_toArray, List.getElem?_cons_zero, List.getElem?_cons_succ]; rfl)
  case hQ10 => exact fun _ _ _ h => h
  case hw10 => rfl
  case hy10 =>
    intro w
    go_simp
    all_goals with_reducible rfl
  try simp only [Act.put, List.setIfInBounds_toArray, List.set_cons_zero, List.set_cons_succ]
  refine' wpAnyLast_take (i := 11) (oi := _) (v := _) ?hi11 (by kernel_rfl) (by kernel_rfl) (by kernel_rfl) (by kernel_rfl) (by kernel_rfl) ?hQ11 (Or.inl ⟨?hw11, ?hy11⟩) (by assumption) ?rest11
  case hi11 => exact (by simp only [List.getElem?_toArray, List.getElem?_cons_zero, List.getElem?_cons_succ]; rfl)
  case hQ11 => exact fun _ _ _ h => h
  case hw11 => rfl
  case hy11 =>
    intro w hSw
    try dsimp only at hSw
    go_simp
    all_goals with_reducible rfl
  try simp only [Act.put, List.setIfInBounds_toArray, List.set_cons_zero, List.set_cons_succ]
  refine' wpAnyLast_take (i := 12) (oi := _) (v := _) ?hi12 (by kernel_rfl) (by kernel_rfl) (by kernel_rfl) (by kernel_rfl) (by kernel_rfl) ?hQ12 (Or.inl ⟨?hw12, ?hy12⟩) (by assumption) ?rest12
  case hi12 => exact (by simp only [List.getElem?_toArray, List.getElem?_cons_zero, List.getElem?_cons_succ]; rfl)
  case hQ12 => exact fun _ _ _ h => h
  case hw12 => rfl
  case hy12 =>
    intro w hSw
    try dsimp only at hSw
    go_simp
    all_goals with_reducible rfl
  try simp only [Act.put, List.setIfInBounds_toArray, List.set_cons_zero, List.set_cons_succ]
  refine wpAnyLast_ready (rs := [13]) (by kernel_rfl) (by simp) ?_
  refine AllReadyL.cons_last (by simp only [List.getElem?_toArray, List.getElem?_cons_zero, List.getElem?_cons_succ]; rfl) (by simp) (fun K hK => ?_) AllReadyL.nil
  go_simp
  refine hK.out _ _ ?_
  clear hK K hHeld
  try simp only [Act.put, List.setIfInBounds_toArray, List.set_cons_zero, List.set_cons_succ]
  have h1 := hm.out.set i y
  have hy2 : (hs.set i y)[k]? = some y := by
    rw [List.getElem?_set]
    by_cases e : i = k
    · rw [if_pos e, if_pos (List.getElem?_eq_some_iff.1 hi.out).1]
    · rw [if_neg e]; exact hk.out
  obtain ⟨o1, g1⟩ := h1
  clear x0 x1 x2 x3 xf xg xh xi y0 y1 y2 y3 yf yg yh yi
  generalize ((((w.setCell ⟨b, i * 4, none⟩ (.int .i64 y.node)).setCell ⟨b, i * 4 + 1, none⟩ (.int .i64 y.inc)).setCell ⟨b, i * 4 + 2, none⟩ (.int .i64 y.hl)).setCell ⟨b, i * 4 + 3, none⟩ (.int .i64 y.n)) = wa at *
  obtain ⟨⟨z0, z1, z2, z3⟩, zf, zg, zh, zi⟩ := o1.at_ k y hy2
  refine wpAnyLast_ready (rs := [14]) (by kernel_rfl) (by simp) ?_
  refine AllReadyL.cons_last (by simp only [List.getElem?_toArray, List.getElem?_cons_zero, List.getElem?_cons_succ]; rfl) (by simp) (fun K hK => ?_) AllReadyL.nil
  go_simp
  refine hK.out _ _ ?_
  clear hK K
  try simp only [Act.put, List.setIfInBounds_toArray, List.set_cons_zero, List.set_cons_succ]
  refine wpAnyLast_ready (rs := [15]) (by kernel_rfl) (by simp) ?_
  refine AllReadyL.cons_last (by simp only [List.getElem?_toArray, List.getElem?_cons_zero, List.getElem?_cons_succ]; rfl) (by simp) (fun K hK => ?_) AllReadyL.nil
  go_simp
  refine hK.out _ _ ?_
  clear hK K
  try simp only [Act.put, List.setIfInBounds_toArray, List.set_cons_zero, List.set_cons_succ]
  refine wpAnyLast_done (by kernel_rfl) ?_ _
  go_end0
  have h2 := o1.set k x
  exact ⟨rfl, h2.1, gb_drew (gb_trans g1 h2.2)⟩
theorem len0 (A : Option Addr) (n c : Nat) (w : World) : Calls Try.prog 83 #[.slice A n c] w fun e w' => e = .returned (.int .i64 (n : Int)) ∧ w' = w := by
  go_enter Try.func83, Try.ntmps83
  go_wp2_with fail
  go_ret
  exact ⟨rfl, rfl⟩
theorem ld (w : World) (g : Nat) (v : Value) (h : w.cell? ⟨g, 1, none⟩ = some v) : (loadVar 89 ⟨g, 1, none⟩).run Try.prog w = .ok v w := by
  simp [go_sem, h, Try.isAgg89, Try.sizeOf89]
theorem chk (name : String) (a : Addr) (w : World) : (Builtin.ssaWrapNilChk_ #[95] 95 #[.pointer (some a), strVal "", strVal name]).run Try.prog w = .ok (.pointer (some a)) w := by kernel_rfl
theorem meth (name : String) (f : FuncId) (hf : (Try.prog.info? 95).map (fun i => (i.methods.find? (·.name == name)).map (fun m => (m.path, m.func))) = some (some (#[], some (f, false)))) (w : World) (g : Nat) (v : Value) (h : w.cell? ⟨g, 1, none⟩ = some v) : (method 227 95 (.pointer (some ⟨g, 1, none⟩)) name).run Try.prog w = .ok (f, v) w := by
  cases hi : Try.prog.info? 95 with
  | none => rw [hi] at hf; cases hf
  | some i0 =>
    rw [hi] at hf
    simp only [Option.map_some, Option.some.injEq] at hf
    cases hm : i0.methods.find? (·.name == name) with
    | none => rw [hm] at hf; cases hf
    | some m =>
      rw [hm] at hf
      simp only [Option.map_some, Option.some.injEq, Prod.mk.injEq] at hf
      have hl := ld w g v h
      unfold method
      simp [typeInfo, hi, hm, hf.1, hf.2, follow, receiverAt, run_underlying Try.underlying95, Place.get, chk, asAddr, hl]
theorem m_less (w : World) (g : Nat) (v : Value) (h : w.cell? ⟨g, 1, none⟩ = some v) : (method 227 95 (.pointer (some ⟨g, 1, none⟩)) "Less").run Try.prog w = .ok (84, v) w := meth "Less" 84 (by kernel_rfl) w g v h
theorem m_len (w : World) (g : Nat) (v : Value) (h : w.cell? ⟨g, 1, none⟩ = some v) : (method 227 95 (.pointer (some ⟨g, 1, none⟩)) "Len").run Try.prog w = .ok (83, v) w := meth "Len" 83 (by kernel_rfl) w g v h
theorem m_swap (w : World) (g : Nat) (v : Value) (h : w.cell? ⟨g, 1, none⟩ = some v) : (method 227 95 (.pointer (some ⟨g, 1, none⟩)) "Swap").run Try.prog w = .ok (85, v) w := meth "Swap" 85 (by kernel_rfl) w g v h
theorem m_pop (w : World) (g : Nat) : (method 227 95 (.pointer (some ⟨g, 1, none⟩)) "Pop").run Try.prog w = .ok (86, .pointer (some ⟨g, 1, none⟩)) w := by kernel_rfl
theorem m_push (w : World) (g : Nat) : (method 227 95 (.pointer (some ⟨g, 1, none⟩)) "Push").run Try.prog w = .ok (87, .pointer (some ⟨g, 1, none⟩)) w := by kernel_rfl
theorem gb_below {a b : World} {row : Option Nat} (h : Below a.heap.size a b) : a.grownBy b row := ⟨h.os, h.tape, h.output, h.size, fun k hk _ => h.block k hk⟩
theorem OwnT.keep {w w' : World} {base : Nat} {v : Value} {hs : List Tld} (h : OwnT w base v hs) (hb : Below w.heap.size w w') : OwnT w' base v hs := by
  refine World.ownsRow.kept (row := none) h ⟨hb.os, hb.tape, hb.output, hb.size, fun k hk _ => hb.block k hk⟩ ?_
  cases v.ownBlock
  · exact .inl rfl
  · exact .inr (by simp)
theorem OwnT.len {w : World} {base : Nat} {A : Option Addr} {n c : Nat} {hs : List Tld} (h : OwnT w base (.slice A n c) hs) : n = hs.length ∧ n ≤ c ∧ c ≤ 9223372036854775807 := by
  rcases h.2 with ⟨h1, h2⟩ | ⟨g, cap, cur, h1, _, _, h5, h6, _⟩
  · injection h1 with e1 e2 e3
    omega
  · injection h1 with e1 e2 e3
    unfold maxLen at h6
    omega
theorem OwnT.some_ {w : World} {base : Nat} {A : Option Addr} {n c : Nat} {hs : List Tld} (h : OwnT w base (.slice A n c) hs) (hz : 0 < hs.length) : ∃ b, A = some ⟨b, 0, none⟩ ∧ base ≤ b ∧ b < w.heap.size := by
  rcases h.2 with ⟨h1, h2⟩ | ⟨g, cap, cur, h1, h3, h4, _⟩
  · omega
  · injection h1 with e1 e2 e3
    exact ⟨g, e1, h3, (Array.getElem?_eq_some_iff.1 h4).1⟩
theorem OwnT.block {w : World} {base : Nat} {A : Option Addr} {n c : Nat} {hs : List Tld} (h : OwnT w base (.slice A n c) hs) (b off : Nat) (e : A = some ⟨b, off, none⟩) : base ≤ b ∧ b < w.heap.size := by
  subst e
  exact World.ownsRow.lt h b rfl
theorem OwnT.form {w : World} {base : Nat} {v : Value} {hs : List Tld} (h : OwnT w base v hs) : ∃ A n c, v = .slice A n c := by
  rcases h.2 with ⟨rfl, _⟩ | ⟨g, cap, cur, rfl, _⟩
  · exact ⟨_, _, _, rfl⟩
  · exact ⟨_, _, _, rfl⟩
theorem cells_take : ∀ (hs : List Tld) (k : Nat), cellsT (hs.take k) = (cellsT hs).take (k * 4)
  | [], k => by simp [cellsT]
  | a :: l, 0 => by simp [cellsT]
  | a :: l, k + 1 => by
    rw [show (k + 1) * 4 = k * 4 + 4 by omega]
    show _ :: _ :: _ :: _ :: cellsT (l.take k) = _
    rw [cells_take l k]
    rfl
theorem OwnT.take {w : World} {base b n c : Nat} {hs : List Tld} (h : OwnT w base (.slice (some ⟨b, 0, none⟩) n c) hs) (k : Nat) (hk : k ≤ n) : OwnT w base (.slice (some ⟨b, 0, none⟩) k c) (hs.take k) := by
  have hn := h.len
  rcases h.2 with ⟨h1, h2⟩ | ⟨g, cap, cur, h1, h3, h4, h5, h6, h7, h8⟩
  · cases h1
  · injection h1 with e1 e2 e3
    injection e1 with e1
    injection e1 with e1
    subst e1 e3
    have hl : (hs.take k).length = k := by simp; omega
    unfold OwnT
    rw [hl]
    refine ⟨by rw [cells_len, hl], .inr ⟨b, c, cur, rfl, h3, h4, by omega, h6, h7, ?_⟩⟩
    rw [cells_take, ← h8, List.take_take, Nat.min_eq_left (by omega)]
theorem OwnT.nil (w : World) (base : Nat) : OwnT w base (.slice none 0 0) [] := World.ownsRow_nil _ _ _ _
theorem OwnT.keepB {w w' : World} {base : Nat} {A : Option Addr} {n c : Nat} {hs : List Tld} (h : OwnT w base (.slice A n c) hs) (hb : ∀ b, A = some ⟨b, 0, none⟩ → w'.heap[b]? = w.heap[b]?) : OwnT w' base (.slice A n c) hs := by
  refine ⟨h.1, ?_⟩
  rcases h.2 with h1 | ⟨g, cap, cur, h1, h3, h4, h5⟩
  · exact .inl h1
  · injection h1 with e1 e2 e3
    subst e1 e2 e3
    exact .inr ⟨g, _, cur, rfl, h3, (hb g rfl).trans h4, h5⟩
theorem info_parts {i : Option TypeInfo} {z : Value} {size bytes : Nat} (h : i.map (fun i => (i.zero, i.size, i.bytes)) = some (some z, size, bytes)) : ∃ i0, i = some i0 ∧ i0.zero = some z ∧ i0.size = size ∧ i0.bytes = bytes := by
  cases i with
  | none => cases h
  | some i0 => simp at h; exact ⟨i0, rfl, h.1, h.2.1, h.2.2⟩
theorem info93 : (Try.prog.info? 93).map (fun i => (i.zero, i.size, i.bytes)) = some (some (.agg #[.int .i64 0, .int .i64 0, .int .i64 0, .int .i64 0]), 4, 32) := by kernel_rfl
theorem run_app (w : World) (ty : TypeId) (base : Nat) (v : Value) (xs : List Tld) (hown : OwnT w base v xs) (ad : Addr) (m : Tld) (c : Nat) (hat : w.cell? (ad.add 0) = some (.int .i64 m.node) ∧ w.cell? (ad.add 1) = some (.int .i64 m.inc) ∧ w.cell? (ad.add 2) = some (.int .i64 m.hl) ∧ w.cell? (ad.add 3) = some (.int .i64 m.n)) (hn : xs.length ≤ 1000000) (hbase : base ≤ w.heap.size) :
    ∃ v' w', (Builtin.append_ #[89, 89] ty #[v, .slice (some ad) 1 c]).run Try.prog w = .ok v' w' ∧ OwnT w' base v' (xs ++ [m]) ∧ w.grownBy w' v.ownBlock ∧ (v'.ownBlock = v.ownBlock ∨ ∀ k, v'.ownBlock = some k → w.heap.size ≤ k) := by
  obtain ⟨i0, hi0, hz0, hz1, hz2⟩ := info_parts info93
  obtain ⟨v', w', hr, h1, h2, h3⟩ := run_append_own (P := Try.prog) w base 89 ty 93 i0 _ 4 32 Try.underlying89 hi0 hz0 hz1 hz2 rfl (by decide) v xs.length (cellsT xs) hown ad 1 c (cellsT [m]) (by rw [cells_len]; rfl) (fun j u hu => by
    have : j = 0 ∨ j = 1 ∨ j = 2 ∨ j = 3 ∨ 4 ≤ j := by omega
    rcases this with rfl | rfl | rfl | rfl | h
    · rw [hat.1]; exact hu
    · rw [hat.2.1]; exact hu
    · rw [hat.2.2.1]; exact hu
    · rw [hat.2.2.2]; exact hu
    · rw [List.getElem?_eq_none (by rw [cells_len]; simp; omega)] at hu; cases hu) (cells_one [m]) (by unfold maxLen; omega) (by omega) hbase
  have hnews : ∀ j u, (cellsT [m])[j]? = some u → w.cell? (ad.add j) = some u := fun j u hu => by
    have : j = 0 ∨ j = 1 ∨ j = 2 ∨ j = 3 ∨ 4 ≤ j := by omega
    rcases this with rfl | rfl | rfl | rfl | h
    · rw [hat.1]; exact hu
    · rw [hat.2.1]; exact hu
    · rw [hat.2.2.1]; exact hu
    · rw [hat.2.2.2]; exact hu
    · rw [List.getElem?_eq_none (by rw [cells_len]; simp; omega)] at hu; cases hu
  refine ⟨v', w', hr, ?_, h2, ?_⟩
  · unfold OwnT
    rw [cells_append, List.length_append]
    exact h1
  · rcases hown.2 with ⟨rfl, h0⟩ | ⟨g, cap, cur, rfl, hbg, hg, hnc, hcm, hcs, htake⟩
    · right
      have h4 := run_append_nil (P := Try.prog) w 89 ty 93 i0 _ Try.underlying89 hi0 hz0 ad 1 c (cellsT [m]) (by rw [cells_len, hz1]; rfl) hnews (by omega) (by omega) (by rw [hz2]; omega)
      rw [hr] at h4
      injection h4 with e1 e2
      subst e1
      intro k hk
      simp [Value.ownBlock] at hk
      omega
    · by_cases hroom : xs.length + 1 ≤ cap
      · left
        obtain ⟨w2, h4, _⟩ := run_append_fits (P := Try.prog) w base 89 ty 93 i0 4 Try.underlying89 hi0 hz1 g xs.length cap (cellsT xs) hown ad 1 c (cellsT [m]) (by rw [cells_len]; rfl) hnews (cells_one [m]) hroom
        rw [hr] at h4
        simp only [Result.ok.injEq] at h4
        rw [h4.1]
        simp only [Value.ownBlock]
      · right
        have holds : ∀ j u, (cellsT xs)[j]? = some u → w.cell? ((⟨g, 0, none⟩ : Addr).add j) = some u := World.ownsRow.cells hown (g := g) rfl
        have h4 := run_append_grow (P := Try.prog) w 89 ty 93 i0 _ Try.underlying89 hi0 hz0 ⟨g, 0, none⟩ xs.length cap (cellsT xs) (by rw [cells_len, hz1]) holds ad 1 c (cellsT [m]) (by rw [cells_len, hz1]; rfl) hnews (by omega) (by omega) (by rw [hz2]; exact growslice_fits (by omega) (by omega))
        rw [hr] at h4
        injection h4 with e1 e2
        subst e1
        intro k hk
        simp [Value.ownBlock] at hk
        omega
theorem wp_app (w : World) {o : Oper} {a : Act} {K : Act → World → Prop} {Q : Exit → Act → World → Prop} (s x : Operand)
    (ho : o.op = .call { callee := .builtin .append, args := #[s, x], argTypes := #[89, 89] })
    (base : Nat) (v : Value) (xs : List Tld) (hs : a.eval s = v) (hown : OwnT w base v xs) (ad : Addr) (m : Tld) (c : Nat) (hx : a.eval x = .slice (some ad) 1 c) (hat : w.cell? (ad.add 0) = some (.int .i64 m.node) ∧ w.cell? (ad.add 1) = some (.int .i64 m.inc) ∧ w.cell? (ad.add 2) = some (.int .i64 m.hl) ∧ w.cell? (ad.add 3) = some (.int .i64 m.n)) (hn : xs.length ≤ 1000000) (hbase : base ≤ w.heap.size)
    (h : ∀ v' w', OwnT w' base v' (xs ++ [m]) → w.grownBy w' v.ownBlock → (v'.ownBlock = v.ownBlock ∨ ∀ k, v'.ownBlock = some k → w.heap.size ≤ k) → K (a.put o.dst v') w') : o.wp Try.prog a w K Q := by
  obtain ⟨v', w', hr, h2, h3, h4⟩ := run_app w o.type base v xs hown ad m c hat hn hbase
  unfold Oper.wp execOp
  simp only [ho, resolve, invoke, builtin, Sem.run_bind, Sem.run_pure, Result.andThen_ok, List.map_toArray, List.map_cons, List.map_nil, hs, hx, hr]
  exact h v' w' h2 h3 h4
theorem step_app (w : World) {ops : Array Oper} {o : Oper} {a : Act} {K : Act → World → Prop} {Q : Exit → Act → World → Prop} {E : Prop} (hgd : o.guard = none) (s x : Operand)
    (ho : o.op = .call { callee := .builtin .append, args := #[s, x], argTypes := #[89, 89] })
    (base : Nat) (v : Value) (xs : List Tld) (hs : a.eval s = v) (hown : OwnT w base v xs) (ad : Addr) (m : Tld) (c : Nat) (hx : a.eval x = .slice (some ad) 1 c) (hat : w.cell? (ad.add 0) = some (.int .i64 m.node) ∧ w.cell? (ad.add 1) = some (.int .i64 m.inc) ∧ w.cell? (ad.add 2) = some (.int .i64 m.hl) ∧ w.cell? (ad.add 3) = some (.int .i64 m.n)) (hn : xs.length ≤ 1000000) (hbase : base ≤ w.heap.size)
    (h : ∀ v' w', OwnT w' base v' (xs ++ [m]) → w.grownBy w' v.ownBlock → (v'.ownBlock = v.ownBlock ∨ ∀ k, v'.ownBlock = some k → w.heap.size ≤ k) → K (a.put o.dst v') w') :
    if Region.wanted o (yielded ops a.tmps) = true then Oper.wp Try.prog o a w K Q else E := by
  have hw : Region.wanted o (yielded ops a.tmps) = true := by simp [Region.wanted, hgd]
  rw [if_pos hw]
  exact wp_app w s x ho base v xs hs hown ad m c hx hat hn hbase h
attribute [irreducible] OwnT
end Go.Proofs.Ytoikadgfbjjfiaa.Rum
