/- Chapter 5: moments in a row: words; what is ahead of what, two places changed. Conditions: the row lies in a block of its own. -/
import Derived.Test.YtoikadgfbjjfiaaProg
import Derived.Test.YtoikadgfbjjfiaaKit
import Derived.Test.YtoikadgfbjjfiaaReads
import Derived.Test.YtoikadgfbjjfiaaHeap
import Derived.WalkKit
import Derived.OwnWalk
import Derived.Deep.LoopGhost
import Derived.Deep.Cut
import Derived.Deep.RegionHeld3
import Derived.BigRegion
import Derived.LoopN
namespace Go.Proofs.Ytoikadgfbjjfiaa.Wat
open Go.RowKit Kit
set_option linter.unusedVariables false
theorem Hid.mk_ {p : Prop} (h : p) : Hid p := h
structure Mom where
  id : Int
  at_ : Int
instance : DecidableEq Mom := fun a b => if h : a.id = b.id ∧ a.at_ = b.at_ then .isTrue (by cases a; cases b; simp_all) else .isFalse (fun e => h (by rw [e]; exact ⟨rfl, rfl⟩))
instance : Inhabited Mom := ⟨⟨0, 0⟩⟩
def ltM (a b : Mom) : Bool := if a.at_ = b.at_ then decide (a.id < b.id) else decide (a.at_ < b.at_)
/-- The moments hs lie from block b on; their cells may be written. -/
def MAt (w : World) (b : Nat) (hs : List Mom) : Prop := ∀ (j : Nat) (m : Mom), hs[j]? = some m →
  w.cell? ⟨b, j * 2, none⟩ = some (.int .i64 m.id) ∧ w.cell? ⟨b, j * 2 + 1, none⟩ = some (.int .i64 m.at_) ∧ w.frozen? ⟨b, j * 2, none⟩ = false ∧ w.frozen? ⟨b, j * 2 + 1, none⟩ = false
set_option maxHeartbeats 2000000 in
theorem less (b n c i k : Nat) (x y : Mom) (hs : List Mom) (w : World) (hm : Hid (MAt w b hs)) (hi : Hid (hs[i]? = some x)) (hk : Hid (hs[k]? = some y)) (hin : i < n) (hkn : k < n) (hn : n ≤ 1000000) (q : Bool) (hq : Hid (q = ltM x y)) :
    Calls Try.prog 79 #[.slice (some ⟨b, 0, none⟩) n c, .int .i64 (i : Int), .int .i64 (k : Int)] w fun e w' => e = .returned (.bool q) ∧ Below w.heap.size w w' := by
  obtain ⟨x0, x1, _, _⟩ := hm.out i x hi.out
  obtain ⟨y0, y1, _, _⟩ := hm.out k y hk.out
  have i0 : (0 : Int) ≤ (i : Int) := by omega
  have i1 : (i : Int) < (n : Int) := by omega
  have k0 : (0 : Int) ≤ (k : Int) := by omega
  have k1 : (k : Int) < (n : Int) := by omega
  by_cases h : x.at_ = y.at_
  · have hb : (x.at_ != y.at_) = false := by simp [h]
    go_enter Try.func79, Try.ntmps79
    go_wp2_with fail
    go_region
    go_wp2_with fail
    go_region
    go_wp2_with fail
    go_ret
    exact ⟨by rw [hq.out]; simp [ltM, h], (Below.refl _ _).drew.drew⟩
  · have hb : (x.at_ != y.at_) = true := by simp [h]
    go_enter Try.func79, Try.ntmps79
    go_wp2_with fail
    go_region
    go_wp2_with fail
    go_region
    go_wp2_with fail
    go_ret
    exact ⟨by rw [hq.out]; simp [ltM, h], (Below.refl _ _).drew.drew⟩
def cellsM (hs : List Mom) : List Value := hs.flatMap fun m => [.int .i64 m.id, .int .i64 m.at_]
theorem cells_len : ∀ hs : List Mom, (cellsM hs).length = hs.length * 2
  | [] => rfl
  | m :: l => by rw [cellsM, List.flatMap_cons, List.length_append, ← cellsM, cells_len l]; simp; omega
theorem cells_get : ∀ (hs : List Mom) (j : Nat) (m : Mom), hs[j]? = some m → (cellsM hs)[j * 2]? = some (.int .i64 m.id) ∧ (cellsM hs)[j * 2 + 1]? = some (.int .i64 m.at_)
  | a :: l, 0, m, h => by
    obtain rfl : a = m := by simpa using h
    exact ⟨rfl, rfl⟩
  | a :: l, j + 1, m, h => by
    have := cells_get l j m (by simpa using h)
    rw [show (j + 1) * 2 = j * 2 + 2 by omega]
    exact this
theorem cells_set : ∀ (hs : List Mom) (j : Nat) (m : Mom), cellsM (hs.set j m) = ((cellsM hs).set (j * 2) (.int .i64 m.id)).set (j * 2 + 1) (.int .i64 m.at_)
  | [], j, m => by simp [cellsM]
  | a :: l, 0, m => rfl
  | a :: l, j + 1, m => by
    have := cells_set l j m
    rw [show (j + 1) * 2 = j * 2 + 2 by omega]
    show _ :: _ :: cellsM (l.set j m) = _
    rw [this]
    rfl
theorem cells_one (hs : List Mom) : ∀ u ∈ cellsM hs, u.oneCell' = true := by
  intro u hu
  obtain ⟨m, _, h⟩ := List.mem_flatMap.1 hu
  simp only [List.mem_cons, List.not_mem_nil, or_false] at h
  rcases h with rfl | rfl <;> rfl
theorem cells_append (xs ys : List Mom) : cellsM (xs ++ ys) = cellsM xs ++ cellsM ys := by simp [cellsM]
/-- v is a row of one's own that holds hs. -/
def OwnM (w : World) (base : Nat) (v : Value) (hs : List Mom) : Prop := w.ownsRow base 82 2 v hs.length (cellsM hs)
theorem OwnM.at_ {w : World} {base b n c : Nat} {hs : List Mom} (h : OwnM w base (.slice (some ⟨b, 0, none⟩) n c) hs) : MAt w b hs := by
  have hn : n = hs.length := by
    rcases h.2 with ⟨h1, h2⟩ | ⟨g, cap, cur, h1, _⟩
    · cases h1
    · injection h1
  subst hn
  intro j m hj
  have hlt := (List.getElem?_eq_some_iff.1 hj).1
  obtain ⟨c0, c1⟩ := cells_get hs j m hj
  refine ⟨?_, ?_, World.ownsRow.frozenAt h _, World.ownsRow.frozenAt h _⟩
  · rw [World.ownsRow.cellAt h (j * 2) (by omega), c0]
  · rw [World.ownsRow.cellAt h (j * 2 + 1) (by omega), c1]
theorem gb_trans {a b c : World} {row : Option Nat} (h : a.grownBy b row) (k : b.grownBy c row) : a.grownBy c row :=
  ⟨k.os.trans h.os, k.tape.trans h.tape, k.output.trans h.output, Nat.le_trans h.size k.size, fun i hi hne => (k.block i (Nat.lt_of_lt_of_le hi h.size) hne).trans (h.block i hi hne)⟩
theorem gb_drew {a b : World} {row : Option Nat} (h : a.grownBy b row) : a.grownBy b.drew row := ⟨h.os, h.tape, h.output, h.size, h.block⟩
theorem OwnM.set {w : World} {base b n c : Nat} {hs : List Mom} (h : OwnM w base (.slice (some ⟨b, 0, none⟩) n c) hs) (j : Nat) (m : Mom) :
    OwnM ((w.setCell ⟨b, j * 2, none⟩ (.int .i64 m.id)).setCell ⟨b, j * 2 + 1, none⟩ (.int .i64 m.at_)) base (.slice (some ⟨b, 0, none⟩) n c) (hs.set j m) ∧ w.grownBy ((w.setCell ⟨b, j * 2, none⟩ (.int .i64 m.id)).setCell ⟨b, j * 2 + 1, none⟩ (.int .i64 m.at_)) (some b) := by
  have hn : n = hs.length := by
    rcases h.2 with ⟨h1, h2⟩ | ⟨g, cap, cur, h1, _⟩
    · cases h1
    · injection h1
  subst hn
  have h1 := World.ownsRow.stored h (j * 2) (.int .i64 m.id)
  have h2 := World.ownsRow.stored h1.1 (j * 2 + 1) (.int .i64 m.at_)
  refine ⟨?_, gb_trans h1.2 h2.2⟩
  unfold OwnM
  rw [cells_set, List.length_set]
  exact h2.1
set_option maxHeartbeats 2000000 in
theorem swap0 (base b n c i k : Nat) (x y : Mom) (hs : List Mom) (w : World) (hm : Hid (OwnM w base (.slice (some ⟨b, 0, none⟩) n c) hs)) (hi : Hid (hs[i]? = some x)) (hk : Hid (hs[k]? = some y)) (hin : i < n) (hkn : k < n) (hn : n ≤ 1000000) :
    Calls Try.prog 80 #[.slice (some ⟨b, 0, none⟩) n c, .int .i64 (i : Int), .int .i64 (k : Int)] w fun e w' => e = .returned (.tuple #[]) ∧ OwnM w' base (.slice (some ⟨b, 0, none⟩) n c) ((hs.set i y).set k x) ∧ w.grownBy w' (some b) := by
  obtain ⟨x0, x1, xf, xg⟩ := hm.out.at_ i x hi.out
  obtain ⟨y0, y1, yf, yg⟩ := hm.out.at_ k y hk.out
  have i0 : (0 : Int) ≤ (i : Int) := by omega
  have i1 : (i : Int) < (n : Int) := by omega
  have k0 : (0 : Int) ≤ (k : Int) := by omega
  have k1 : (k : Int) < (n : Int) := by omega
  by_cases hik : i = k
  · subst hik
    obtain rfl : x = y := Option.some.inj (hi.out.symm.trans hk.out)
    clear y0 y1 yf yg
    go_enter Try.func80, Try.ntmps80
    go_wp2_with fail
    go_region
    go_end0
    have h1 := hm.out.set i x
    have h2 := h1.1.set i x
    exact ⟨rfl, h2.1, gb_drew (gb_trans h1.2 h2.2)⟩
  · go_enter Try.func80, Try.ntmps80
    go_wp2_with fail
    go_region
    go_end0
    have h1 := hm.out.set i y
    have h2 := h1.1.set k x
    exact ⟨rfl, h2.1, gb_drew (gb_trans h1.2 h2.2)⟩
theorem len0 (A : Option Addr) (n c : Nat) (w : World) : Calls Try.prog 78 #[.slice A n c] w fun e w' => e = .returned (.int .i64 (n : Int)) ∧ w' = w := by
  go_enter Try.func78, Try.ntmps78
  go_wp2_with fail
  go_ret
  exact ⟨rfl, rfl⟩
theorem ld (w : World) (g : Nat) (v : Value) (h : w.cell? ⟨g, 0, none⟩ = some v) : (loadVar 76 ⟨g, 0, none⟩).run Try.prog w = .ok v w := by
  simp [go_sem, h, Try.isAgg76, Try.sizeOf76]
theorem chk (name : String) (a : Addr) (w : World) : (Builtin.ssaWrapNilChk_ #[80] 80 #[.pointer (some a), strVal "", strVal name]).run Try.prog w = .ok (.pointer (some a)) w := by kernel_rfl
theorem meth (name : String) (f : FuncId) (hf : (Try.prog.info? 80).map (fun i => (i.methods.find? (·.name == name)).map (fun m => (m.path, m.func))) = some (some (#[], some (f, false)))) (w : World) (g : Nat) (v : Value) (h : w.cell? ⟨g, 0, none⟩ = some v) : (method 227 80 (.pointer (some ⟨g, 0, none⟩)) name).run Try.prog w = .ok (f, v) w := by
  cases hi : Try.prog.info? 80 with
  | none => rw [hi] at hf; cases hf
  | some i0 =>
    rw [hi] at hf
    simp only [Option.map_some, Option.some.injEq] at hf
    cases hm : i0.methods.find? (·.name == name) with
    | none => rw [hm] at hf; cases hf
    | some m =>
      rw [hm] at hf
      simp only [Option.map_some, Option.some.injEq, Prod.mk.injEq] at hf
      have hl := ld w g v h
      unfold method
      simp [typeInfo, hi, hm, hf.1, hf.2, follow, receiverAt, run_underlying Try.underlying80, Place.get, chk, asAddr, hl]
theorem m_less (w : World) (g : Nat) (v : Value) (h : w.cell? ⟨g, 0, none⟩ = some v) : (method 227 80 (.pointer (some ⟨g, 0, none⟩)) "Less").run Try.prog w = .ok (79, v) w := meth "Less" 79 (by kernel_rfl) w g v h
theorem m_len (w : World) (g : Nat) (v : Value) (h : w.cell? ⟨g, 0, none⟩ = some v) : (method 227 80 (.pointer (some ⟨g, 0, none⟩)) "Len").run Try.prog w = .ok (78, v) w := meth "Len" 78 (by kernel_rfl) w g v h
theorem m_swap (w : World) (g : Nat) (v : Value) (h : w.cell? ⟨g, 0, none⟩ = some v) : (method 227 80 (.pointer (some ⟨g, 0, none⟩)) "Swap").run Try.prog w = .ok (80, v) w := meth "Swap" 80 (by kernel_rfl) w g v h
theorem m_pop (w : World) (g : Nat) : (method 227 80 (.pointer (some ⟨g, 0, none⟩)) "Pop").run Try.prog w = .ok (81, .pointer (some ⟨g, 0, none⟩)) w := by kernel_rfl
theorem m_push (w : World) (g : Nat) : (method 227 80 (.pointer (some ⟨g, 0, none⟩)) "Push").run Try.prog w = .ok (82, .pointer (some ⟨g, 0, none⟩)) w := by kernel_rfl
theorem gb_below {a b : World} {row : Option Nat} (h : Below a.heap.size a b) : a.grownBy b row := ⟨h.os, h.tape, h.output, h.size, fun k hk _ => h.block k hk⟩
theorem OwnM.keep {w w' : World} {base : Nat} {v : Value} {hs : List Mom} (h : OwnM w base v hs) (hb : Below w.heap.size w w') : OwnM w' base v hs := by
  refine World.ownsRow.kept (row := none) h ⟨hb.os, hb.tape, hb.output, hb.size, fun k hk _ => hb.block k hk⟩ ?_
  cases v.ownBlock
  · exact .inl rfl
  · exact .inr (by simp)
theorem OwnM.len {w : World} {base : Nat} {A : Option Addr} {n c : Nat} {hs : List Mom} (h : OwnM w base (.slice A n c) hs) : n = hs.length ∧ n ≤ c ∧ c ≤ 9223372036854775807 := by
  rcases h.2 with ⟨h1, h2⟩ | ⟨g, cap, cur, h1, _, _, h5, h6, _⟩
  · injection h1 with e1 e2 e3
    omega
  · injection h1 with e1 e2 e3
    unfold maxLen at h6
    omega
theorem OwnM.some_ {w : World} {base : Nat} {A : Option Addr} {n c : Nat} {hs : List Mom} (h : OwnM w base (.slice A n c) hs) (hz : 0 < hs.length) : ∃ b, A = some ⟨b, 0, none⟩ ∧ base ≤ b ∧ b < w.heap.size := by
  rcases h.2 with ⟨h1, h2⟩ | ⟨g, cap, cur, h1, h3, h4, _⟩
  · omega
  · injection h1 with e1 e2 e3
    exact ⟨g, e1, h3, (Array.getElem?_eq_some_iff.1 h4).1⟩
theorem OwnM.block {w : World} {base : Nat} {A : Option Addr} {n c : Nat} {hs : List Mom} (h : OwnM w base (.slice A n c) hs) (b off : Nat) (e : A = some ⟨b, off, none⟩) : base ≤ b ∧ b < w.heap.size := by
  subst e
  exact World.ownsRow.lt h b rfl
theorem OwnM.form {w : World} {base : Nat} {v : Value} {hs : List Mom} (h : OwnM w base v hs) : ∃ A n c, v = .slice A n c := by
  rcases h.2 with ⟨rfl, _⟩ | ⟨g, cap, cur, rfl, _⟩
  · exact ⟨_, _, _, rfl⟩
  · exact ⟨_, _, _, rfl⟩
theorem cells_take : ∀ (hs : List Mom) (k : Nat), cellsM (hs.take k) = (cellsM hs).take (k * 2)
  | [], k => by simp [cellsM]
  | a :: l, 0 => by simp [cellsM]
  | a :: l, k + 1 => by
    rw [show (k + 1) * 2 = k * 2 + 2 by omega]
    show _ :: _ :: cellsM (l.take k) = _
    rw [cells_take l k]
    rfl
theorem OwnM.take {w : World} {base b n c : Nat} {hs : List Mom} (h : OwnM w base (.slice (some ⟨b, 0, none⟩) n c) hs) (k : Nat) (hk : k ≤ n) : OwnM w base (.slice (some ⟨b, 0, none⟩) k c) (hs.take k) := by
  have hn := h.len
  rcases h.2 with ⟨h1, h2⟩ | ⟨g, cap, cur, h1, h3, h4, h5, h6, h7, h8⟩
  · cases h1
  · injection h1 with e1 e2 e3
    injection e1 with e1
    injection e1 with e1
    subst e1 e3
    have hl : (hs.take k).length = k := by simp; omega
    unfold OwnM
    rw [hl]
    refine ⟨by rw [cells_len, hl], .inr ⟨b, c, cur, rfl, h3, h4, by omega, h6, h7, ?_⟩⟩
    rw [cells_take, ← h8, List.take_take, Nat.min_eq_left (by omega)]
theorem OwnM.nil (w : World) (base : Nat) : OwnM w base (.slice none 0 0) [] := World.ownsRow_nil _ _ _ _
theorem OwnM.keepB {w w' : World} {base : Nat} {A : Option Addr} {n c : Nat} {hs : List Mom} (h : OwnM w base (.slice A n c) hs) (hb : ∀ b, A = some ⟨b, 0, none⟩ → w'.heap[b]? = w.heap[b]?) : OwnM w' base (.slice A n c) hs := by
  refine ⟨h.1, ?_⟩
  rcases h.2 with h1 | ⟨g, cap, cur, h1, h3, h4, h5⟩
  · exact .inl h1
  · injection h1 with e1 e2 e3
    subst e1 e2 e3
    exact .inr ⟨g, _, cur, rfl, h3, (hb g rfl).trans h4, h5⟩
theorem info_parts {i : Option TypeInfo} {z : Value} {size bytes : Nat} (h : i.map (fun i => (i.zero, i.size, i.bytes)) = some (some z, size, bytes)) : ∃ i0, i = some i0 ∧ i0.zero = some z ∧ i0.size = size ∧ i0.bytes = bytes := by
  cases i with
  | none => cases h
  | some i0 => simp at h; exact ⟨i0, rfl, h.1, h.2.1, h.2.2⟩
theorem info82 : (Try.prog.info? 82).map (fun i => (i.zero, i.size, i.bytes)) = some (some (.agg #[.int .i64 0, .int .i64 0]), 2, 16) := by kernel_rfl
theorem run_app (w : World) (ty : TypeId) (base : Nat) (v : Value) (xs : List Mom) (hown : OwnM w base v xs) (ad : Addr) (m : Mom) (c : Nat) (hat : w.cell? (ad.add 0) = some (.int .i64 m.id) ∧ w.cell? (ad.add 1) = some (.int .i64 m.at_)) (hn : xs.length ≤ 1000000) (hbase : base ≤ w.heap.size) :
    ∃ v' w', (Builtin.append_ #[76, 76] ty #[v, .slice (some ad) 1 c]).run Try.prog w = .ok v' w' ∧ OwnM w' base v' (xs ++ [m]) ∧ w.grownBy w' v.ownBlock ∧ (v'.ownBlock = v.ownBlock ∨ ∀ k, v'.ownBlock = some k → w.heap.size ≤ k) := by
  obtain ⟨i0, hi0, hz0, hz1, hz2⟩ := info_parts info82
  obtain ⟨v', w', hr, h1, h2, h3⟩ := run_append_own (P := Try.prog) w base 76 ty 82 i0 _ 2 16 Try.underlying76 hi0 hz0 hz1 hz2 rfl (by decide) v xs.length (cellsM xs) hown ad 1 c (cellsM [m]) (by rw [cells_len]; rfl) (fun j u hu => by
    have : j = 0 ∨ j = 1 ∨ 2 ≤ j := by omega
    rcases this with rfl | rfl | h
    · rw [hat.1]; exact hu
    · rw [hat.2]; exact hu
    · rw [List.getElem?_eq_none (by rw [cells_len]; simp; omega)] at hu; cases hu) (cells_one [m]) (by unfold maxLen; omega) (by omega) hbase
  have hnews : ∀ j u, (cellsM [m])[j]? = some u → w.cell? (ad.add j) = some u := fun j u hu => by
    have : j = 0 ∨ j = 1 ∨ 2 ≤ j := by omega
    rcases this with rfl | rfl | h
    · rw [hat.1]; exact hu
    · rw [hat.2]; exact hu
    · rw [List.getElem?_eq_none (by rw [cells_len]; simp; omega)] at hu; cases hu
  refine ⟨v', w', hr, ?_, h2, ?_⟩
  · unfold OwnM
    rw [cells_append, List.length_append]
    exact h1
  · rcases hown.2 with ⟨rfl, h0⟩ | ⟨g, cap, cur, rfl, hbg, hg, hnc, hcm, hcs, htake⟩
    · right
      have h4 := run_append_nil (P := Try.prog) w 76 ty 82 i0 _ Try.underlying76 hi0 hz0 ad 1 c (cellsM [m]) (by rw [cells_len, hz1]; rfl) hnews (by omega) (by omega) (by rw [hz2]; omega)
      rw [hr] at h4
      injection h4 with e1 e2
      subst e1
      intro k hk
      simp [Value.ownBlock] at hk
      omega
    · by_cases hroom : xs.length + 1 ≤ cap
      · left
        obtain ⟨w2, h4, _⟩ := run_append_fits (P := Try.prog) w base 76 ty 82 i0 2 Try.underlying76 hi0 hz1 g xs.length cap (cellsM xs) hown ad 1 c (cellsM [m]) (by rw [cells_len]; rfl) hnews (cells_one [m]) hroom
        rw [hr] at h4
        simp only [Result.ok.injEq] at h4
        rw [h4.1]
        simp only [Value.ownBlock]
      · right
        have holds : ∀ j u, (cellsM xs)[j]? = some u → w.cell? ((⟨g, 0, none⟩ : Addr).add j) = some u := World.ownsRow.cells hown (g := g) rfl
        have h4 := run_append_grow (P := Try.prog) w 76 ty 82 i0 _ Try.underlying76 hi0 hz0 ⟨g, 0, none⟩ xs.length cap (cellsM xs) (by rw [cells_len, hz1]) holds ad 1 c (cellsM [m]) (by rw [cells_len, hz1]; rfl) hnews (by omega) (by omega) (by rw [hz2]; exact growslice_fits (by omega) (by omega))
        rw [hr] at h4
        injection h4 with e1 e2
        subst e1
        intro k hk
        simp [Value.ownBlock] at hk
        omega
theorem wp_app (w : World) {o : Oper} {a : Act} {K : Act → World → Prop} {Q : Exit → Act → World → Prop} (s x : Operand)
    (ho : o.op = .call { callee := .builtin .append, args := #[s, x], argTypes := #[76, 76] })
    (base : Nat) (v : Value) (xs : List Mom) (hs : a.eval s = v) (hown : OwnM w base v xs) (ad : Addr) (m : Mom) (c : Nat) (hx : a.eval x = .slice (some ad) 1 c) (hat : w.cell? (ad.add 0) = some (.int .i64 m.id) ∧ w.cell? (ad.add 1) = some (.int .i64 m.at_)) (hn : xs.length ≤ 1000000) (hbase : base ≤ w.heap.size)
    (h : ∀ v' w', OwnM w' base v' (xs ++ [m]) → w.grownBy w' v.ownBlock → (v'.ownBlock = v.ownBlock ∨ ∀ k, v'.ownBlock = some k → w.heap.size ≤ k) → K (a.put o.dst v') w') : o.wp Try.prog a w K Q := by
  obtain ⟨v', w', hr, h2, h3, h4⟩ := run_app w o.type base v xs hown ad m c hat hn hbase
  unfold Oper.wp execOp
  simp only [ho, resolve, invoke, builtin, Sem.run_bind, Sem.run_pure, Result.andThen_ok, List.map_toArray, List.map_cons, List.map_nil, hs, hx, hr]
  exact h v' w' h2 h3 h4
theorem step_app (w : World) {ops : Array Oper} {o : Oper} {a : Act} {K : Act → World → Prop} {Q : Exit → Act → World → Prop} {E : Prop} (hgd : o.guard = none) (s x : Operand)
    (ho : o.op = .call { callee := .builtin .append, args := #[s, x], argTypes := #[76, 76] })
    (base : Nat) (v : Value) (xs : List Mom) (hs : a.eval s = v) (hown : OwnM w base v xs) (ad : Addr) (m : Mom) (c : Nat) (hx : a.eval x = .slice (some ad) 1 c) (hat : w.cell? (ad.add 0) = some (.int .i64 m.id) ∧ w.cell? (ad.add 1) = some (.int .i64 m.at_)) (hn : xs.length ≤ 1000000) (hbase : base ≤ w.heap.size)
    (h : ∀ v' w', OwnM w' base v' (xs ++ [m]) → w.grownBy w' v.ownBlock → (v'.ownBlock = v.ownBlock ∨ ∀ k, v'.ownBlock = some k → w.heap.size ≤ k) → K (a.put o.dst v') w') :
    if Region.wanted o (yielded ops a.tmps) = true then Oper.wp Try.prog o a w K Q else E := by
  have hw : Region.wanted o (yielded ops a.tmps) = true := by simp [Region.wanted, hgd]
  rw [if_pos hw]
  exact wp_app w s x ho base v xs hs hown ad m c hx hat hn hbase h
attribute [irreducible] OwnM
end Go.Proofs.Ytoikadgfbjjfiaa.Wat
