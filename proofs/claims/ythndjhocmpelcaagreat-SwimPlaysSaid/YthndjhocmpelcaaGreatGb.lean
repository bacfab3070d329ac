/- The clock's heap, first part. Conditions: as each theorem says. -/
import Derived.Test.YthndjhocmpelcaaGreatProg
import Derived.Test.YthndjhocmpelcaaGreatKit
import Derived.Test.YthndjhocmpelcaaGreatReads
import Derived.Test.YthndjhocmpelcaaGreatGa
import Derived.WalkKit
import Derived.OwnWalk
import Derived.Deep.LoopGhost
import Derived.Deep.Cut
import Derived.Deep.RegionHeld3
import Derived.BigRegion
import Derived.LoopN
import Derived.Test.YthndjhocmpelcaaGreatWLast
namespace Go.Proofs.YthndjhocmpelcaaGreat.Wat
open Go.RowKit Kit
set_option linter.unusedVariables false
theorem Hid.mk_ {p : Prop} (h : p) : Hid p := h
structure Mom where
  id : Int
  at_ : Int
instance : DecidableEq Mom := fun a b => if h : a.id = b.id ∧ a.at_ = b.at_ then .isTrue (by cases a; cases b; simp_all) else .isFalse (fun e => h (by rw [e]; exact ⟨rfl, rfl⟩))
instance : Inhabited Mom := ⟨⟨0, 0⟩⟩
def ltM (a b : Mom) : Bool := if a.at_ = b.at_ then decide (a.id < b.id) else decide (a.at_ < b.at_)
/-- The moments hs lie from block b on; their cells may be written. -/
def MAt (w : World) (b : Nat) (hs : List Mom) : Prop := ∀ (j : Nat) (m : Mom), hs[j]? = some m →
  w.cell? ⟨b, j * 2, none⟩ = some (.int .i64 m.id) ∧ w.cell? ⟨b, j * 2 + 1, none⟩ = some (.int .i64 m.at_) ∧ w.frozen? ⟨b, j * 2, none⟩ = false ∧ w.frozen? ⟨b, j * 2 + 1, none⟩ = false
set_option maxHeartbeats 2000000 in
theorem less (b n c i k : Nat) (x y : Mom) (hs : List Mom) (w : World) (hm : Hid (MAt w b hs)) (hi : Hid (hs[i]? = some x)) (hk : Hid (hs[k]? = some y)) (hin : i < n) (hkn : k < n) (hn : n ≤ 1000000) (q : Bool) (hq : Hid (q = ltM x y)) :
    Calls Tryz.prog 122 #[.slice (some ⟨b, 0, none⟩) n c, .int .i64 (i : Int), .int .i64 (k : Int)] w fun e w' => e = .returned (.bool q) ∧ Below w.heap.size w w' := by
  obtain ⟨x0, x1, _, _⟩ := hm.out i x hi.out
  obtain ⟨y0, y1, _, _⟩ := hm.out k y hk.out
  have i0 : (0 : Int) ≤ (i : Int) := by omega
  have i1 : (i : Int) < (n : Int) := by omega
  have k0 : (0 : Int) ≤ (k : Int) := by omega
  have k1 : (k : Int) < (n : Int) := by omega
  by_cases h : x.at_ = y.at_
  · have hb : (x.at_ != y.at_) = false := by simp [h]
    go_enter Tryz.func122, Tryz.ntmps122
    go_wp2_with fail
    go_region
    go_wp2_with fail
    go_region
    go_wp2_with fail
    go_ret
    exact ⟨by rw [hq.out]; simp [ltM, h], (Below.refl _ _).drew.drew⟩
  · have hb : (x.at_ != y.at_) = true := by simp [h]
    go_enter Tryz.func122, Tryz.ntmps122
    go_wp2_with fail
    go_region
    go_wp2_with fail
    go_region
    go_wp2_with fail
    go_ret
    exact ⟨by rw [hq.out]; simp [ltM, h], (Below.refl _ _).drew.drew⟩
def cellsM (hs : List Mom) : List Value := hs.flatMap fun m => [.int .i64 m.id, .int .i64 m.at_]
theorem cells_len : ∀ hs : List Mom, (cellsM hs).length = hs.length * 2
  | [] => rfl
  | m :: l => by rw [cellsM, List.flatMap_cons, List.length_append, ← cellsM, cells_len l]; simp; omega
theorem cells_get : ∀ (hs : List Mom) (j : Nat) (m : Mom), hs[j]? = some m → (cellsM hs)[j * 2]? = some (.int .i64 m.id) ∧ (cellsM hs)[j * 2 + 1]? = some (.int .i64 m.at_)
  | a :: l, 0, m, h => by
    obtain rfl : a = m := by simpa using h
    exact ⟨rfl, rfl⟩
  | a :: l, j + 1, m, h => by
    have := cells_get l j m (by simpa using h)
    rw [show (j + 1) * 2 = j * 2 + 2 by omega]
    exact this
theorem cells_set : ∀ (hs : List Mom) (j : Nat) (m : Mom), cellsM (hs.set j m) = ((cellsM hs).set (j * 2) (.int .i64 m.id)).set (j * 2 + 1) (.int .i64 m.at_)
  | [], j, m => by simp [cellsM]
  | a :: l, 0, m => rfl
  | a :: l, j + 1, m => by
    have := cells_set l j m
    rw [show (j + 1) * 2 = j * 2 + 2 by omega]
    show _ :: _ :: cellsM (l.set j m) = _
    rw [this]
    rfl
theorem cells_one (hs : List Mom) : ∀ u ∈ cellsM hs, u.oneCell' = true := by
  intro u hu
  obtain ⟨m, _, h⟩ := List.mem_flatMap.1 hu
  simp only [List.mem_cons, List.not_mem_nil, or_false] at h
  rcases h with rfl | rfl <;> rfl
theorem cells_append (xs ys : List Mom) : cellsM (xs ++ ys) = cellsM xs ++ cellsM ys := by simp [cellsM]
/-- v is a row of one's own that holds hs. -/
def OwnM (w : World) (base : Nat) (v : Value) (hs : List Mom) : Prop := w.ownsRow base 121 2 v hs.length (cellsM hs)
theorem OwnM.at_ {w : World} {base b n c : Nat} {hs : List Mom} (h : OwnM w base (.slice (some ⟨b, 0, none⟩) n c) hs) : MAt w b hs := by
  have hn : n = hs.length := by
    rcases h.2 with ⟨h1, h2⟩ | ⟨g, cap, cur, h1, _⟩
    · cases h1
    · injection h1
  subst hn
  intro j m hj
  have hlt := (List.getElem?_eq_some_iff.1 hj).1
  obtain ⟨c0, c1⟩ := cells_get hs j m hj
  refine ⟨?_, ?_, World.ownsRow.frozenAt h _, World.ownsRow.frozenAt h _⟩
  · rw [World.ownsRow.cellAt h (j * 2) (by omega), c0]
  · rw [World.ownsRow.cellAt h (j * 2 + 1) (by omega), c1]
theorem gb_trans {a b c : World} {row : Option Nat} (h : a.grownBy b row) (k : b.grownBy c row) : a.grownBy c row :=
  ⟨k.os.trans h.os, k.tape.trans h.tape, k.output.trans h.output, Nat.le_trans h.size k.size, fun i hi hne => (k.block i (Nat.lt_of_lt_of_le hi h.size) hne).trans (h.block i hi hne)⟩
theorem gb_drew {a b : World} {row : Option Nat} (h : a.grownBy b row) : a.grownBy b.drew row := ⟨h.os, h.tape, h.output, h.size, h.block⟩
theorem OwnM.set {w : World} {base b n c : Nat} {hs : List Mom} (h : OwnM w base (.slice (some ⟨b, 0, none⟩) n c) hs) (j : Nat) (m : Mom) :
    OwnM ((w.setCell ⟨b, j * 2, none⟩ (.int .i64 m.id)).setCell ⟨b, j * 2 + 1, none⟩ (.int .i64 m.at_)) base (.slice (some ⟨b, 0, none⟩) n c) (hs.set j m) ∧ w.grownBy ((w.setCell ⟨b, j * 2, none⟩ (.int .i64 m.id)).setCell ⟨b, j * 2 + 1, none⟩ (.int .i64 m.at_)) (some b) := by
  have hn : n = hs.length := by
    rcases h.2 with ⟨h1, h2⟩ | ⟨g, cap, cur, h1, _⟩
    · cases h1
    · injection h1
  subst hn
  have h1 := World.ownsRow.stored h (j * 2) (.int .i64 m.id)
  have h2 := World.ownsRow.stored h1.1 (j * 2 + 1) (.int .i64 m.at_)
  refine ⟨?_, gb_trans h1.2 h2.2⟩
  unfold OwnM
  rw [cells_set, List.length_set]
  exact h2.1
set_option maxHeartbeats 2000000 in
theorem swap0 (base b n c i k : Nat) (x y : Mom) (hs : List Mom) (w : World) (hm : Hid (OwnM w base (.slice (some ⟨b, 0, none⟩) n c) hs)) (hi : Hid (hs[i]? = some x)) (hk : Hid (hs[k]? = some y)) (hin : i < n) (hkn : k < n) (hn : n ≤ 1000000) :
    Calls Tryz.prog 123 #[.slice (some ⟨b, 0, none⟩) n c, .int .i64 (i : Int), .int .i64 (k : Int)] w fun e w' => e = .returned (.tuple #[]) ∧ OwnM w' base (.slice (some ⟨b, 0, none⟩) n c) ((hs.set i y).set k x) ∧ w.grownBy w' (some b) := by
  obtain ⟨x0, x1, xf, xg⟩ := hm.out.at_ i x hi.out
  obtain ⟨y0, y1, yf, yg⟩ := hm.out.at_ k y hk.out
  have i0 : (0 : Int) ≤ (i : Int) := by omega
  have i1 : (i : Int) < (n : Int) := by omega
  have k0 : (0 : Int) ≤ (k : Int) := by omega
  have k1 : (k : Int) < (n : Int) := by omega
  by_cases hik : i = k
  · subst hik
    obtain rfl : x = y := Option.some.inj (hi.out.symm.trans hk.out)
    clear y0 y1 yf yg
    go_enter Tryz.func123, Tryz.ntmps123
    go_wp2_with fail
    go_region
    go_end0
    have h1 := hm.out.set i x
    have h2 := h1.1.set i x
    exact ⟨rfl, h2.1, gb_drew (gb_trans h1.2 h2.2)⟩
  · go_enter Tryz.func123, Tryz.ntmps123
    go_wp2_with fail
    go_region
    go_end0
    have h1 := hm.out.set i y
    have h2 := h1.1.set k x
    exact ⟨rfl, h2.1, gb_drew (gb_trans h1.2 h2.2)⟩
theorem len0 (A : Option Addr) (n c : Nat) (w : World) : Calls Tryz.prog 121 #[.slice A n c] w fun e w' => e = .returned (.int .i64 (n : Int)) ∧ w' = w := by
  go_enter Tryz.func121, Tryz.ntmps121
  go_wp2_with fail
  go_ret
  exact ⟨rfl, rfl⟩
theorem ld (w : World) (g : Nat) (v : Value) (h : w.cell? ⟨g, 0, none⟩ = some v) : (loadVar 106 ⟨g, 0, none⟩).run Tryz.prog w = .ok v w := by
  simp [go_sem, h]
theorem chk (name : String) (a : Addr) (w : World) : (Builtin.ssaWrapNilChk_ #[124] 124 #[.pointer (some a), strVal "", strVal name]).run Tryz.prog w = .ok (.pointer (some a)) w := by kernel_rfl
theorem meth (name : String) (f : FuncId) (hf : (Tryz.prog.info? 124).map (fun i => (i.methods.find? (·.name == name)).map (fun m => (m.path, m.func))) = some (some (#[], some (f, false)))) (w : World) (g : Nat) (v : Value) (h : w.cell? ⟨g, 0, none⟩ = some v) : (method 276 124 (.pointer (some ⟨g, 0, none⟩)) name).run Tryz.prog w = .ok (f, v) w := by
  cases hi : Tryz.prog.info? 124 with
  | none => rw [hi] at hf; cases hf
  | some i0 =>
    rw [hi] at hf
    simp only [Option.map_some, Option.some.injEq] at hf
    cases hm : i0.methods.find? (·.name == name) with
    | none => rw [hm] at hf; cases hf
    | some m =>
      rw [hm] at hf
      simp only [Option.map_some, Option.some.injEq, Prod.mk.injEq] at hf
      have hl := ld w g v h
      unfold method
      simp [typeInfo, hi, hm, hf.1, hf.2, follow, receiverAt, run_underlying Tryz.underlying124, Place.get, chk, asAddr, hl]
theorem m_less (w : World) (g : Nat) (v : Value) (h : w.cell? ⟨g, 0, none⟩ = some v) : (method 276 124 (.pointer (some ⟨g, 0, none⟩)) "Less").run Tryz.prog w = .ok (122, v) w := meth "Less" 122 (by kernel_rfl) w g v h
theorem m_len (w : World) (g : Nat) (v : Value) (h : w.cell? ⟨g, 0, none⟩ = some v) : (method 276 124 (.pointer (some ⟨g, 0, none⟩)) "Len").run Tryz.prog w = .ok (121, v) w := meth "Len" 121 (by kernel_rfl) w g v h
theorem m_swap (w : World) (g : Nat) (v : Value) (h : w.cell? ⟨g, 0, none⟩ = some v) : (method 276 124 (.pointer (some ⟨g, 0, none⟩)) "Swap").run Tryz.prog w = .ok (123, v) w := meth "Swap" 123 (by kernel_rfl) w g v h
theorem m_pop (w : World) (g : Nat) : (method 276 124 (.pointer (some ⟨g, 0, none⟩)) "Pop").run Tryz.prog w = .ok (124, .pointer (some ⟨g, 0, none⟩)) w := by kernel_rfl
theorem m_push (w : World) (g : Nat) : (method 276 124 (.pointer (some ⟨g, 0, none⟩)) "Push").run Tryz.prog w = .ok (125, .pointer (some ⟨g, 0, none⟩)) w := by kernel_rfl
theorem gb_below {a b : World} {row : Option Nat} (h : Below a.heap.size a b) : a.grownBy b row := ⟨h.os, h.tape, h.output, h.size, fun k hk _ => h.block k hk⟩
theorem OwnM.keep {w w' : World} {base : Nat} {v : Value} {hs : List Mom} (h : OwnM w base v hs) (hb : Below w.heap.size w w') : OwnM w' base v hs := by
  refine World.ownsRow.kept (row := none) h ⟨hb.os, hb.tape, hb.output, hb.size, fun k hk _ => hb.block k hk⟩ ?_
  cases v.ownBlock
  · exact .inl rfl
  · exact .inr (by simp)
theorem OwnM.len {w : World} {base : Nat} {A : Option Addr} {n c : Nat} {hs : List Mom} (h : OwnM w base (.slice A n c) hs) : n = hs.length ∧ n ≤ c ∧ c ≤ 9223372036854775807 := by
  rcases h.2 with ⟨h1, h2⟩ | ⟨g, cap, cur, h1, _, _, h5, h6, _⟩
  · injection h1 with e1 e2 e3
    omega
  · injection h1 with e1 e2 e3
    unfold maxLen at h6
    omega
theorem OwnM.some_ {w : World} {base : Nat} {A : Option Addr} {n c : Nat} {hs : List Mom} (h : OwnM w base (.slice A n c) hs) (hz : 0 < hs.length) : ∃ b, A = some ⟨b, 0, none⟩ ∧ base ≤ b ∧ b < w.heap.size := by
  rcases h.2 with ⟨h1, h2⟩ | ⟨g, cap, cur, h1, h3, h4, _⟩
  · omega
  · injection h1 with e1 e2 e3
    exact ⟨g, e1, h3, (Array.getElem?_eq_some_iff.1 h4).1⟩
theorem OwnM.block {w : World} {base : Nat} {A : Option Addr} {n c : Nat} {hs : List Mom} (h : OwnM w base (.slice A n c) hs) (b off : Nat) (e : A = some ⟨b, off, none⟩) : base ≤ b ∧ b < w.heap.size := by
  subst e
  exact World.ownsRow.lt h b rfl
theorem OwnM.form {w : World} {base : Nat} {v : Value} {hs : List Mom} (h : OwnM w base v hs) : ∃ A n c, v = .slice A n c := by
  rcases h.2 with ⟨rfl, _⟩ | ⟨g, cap, cur, rfl, _⟩
  · exact ⟨_, _, _, rfl⟩
  · exact ⟨_, _, _, rfl⟩
theorem cells_take : ∀ (hs : List Mom) (k : Nat), cellsM (hs.take k) = (cellsM hs).take (k * 2)
  | [], k => by simp [cellsM]
  | a :: l, 0 => by simp [cellsM]
  | a :: l, k + 1 => by
    rw [show (k + 1) * 2 = k * 2 + 2 by omega]
    show _ :: _ :: cellsM (l.take k) = _
    rw [cells_take l k]
    rfl
theorem OwnM.take {w : World} {base b n c : Nat} {hs : List Mom} (h : OwnM w base (.slice (some ⟨b, 0, none⟩) n c) hs) (k : Nat) (hk : k ≤ n) : OwnM w base (.slice (some ⟨b, 0, none⟩) k c) (hs.take k) := by
  have hn := h.len
  rcases h.2 with ⟨h1, h2⟩ | ⟨g, cap, cur, h1, h3, h4, h5, h6, h7, h8⟩
  · cases h1
  · injection h1 with e1 e2 e3
    injection e1 with e1
    injection e1 with e1
    subst e1 e3
    have hl : (hs.take k).length = k := by simp; omega
    unfold OwnM
    rw [hl]
    refine ⟨by rw [cells_len, hl], .inr ⟨b, c, cur, rfl, h3, h4, by omega, h6, h7, ?_⟩⟩
    rw [cells_take, ← h8, List.take_take, Nat.min_eq_left (by omega)]
theorem OwnM.nil (w : World) (base : Nat) : OwnM w base (.slice none 0 0) [] := World.ownsRow_nil _ _ _ _
theorem OwnM.keepB {w w' : World} {base : Nat} {A : Option Addr} {n c : Nat} {hs : List Mom} (h : OwnM w base (.slice A n c) hs) (hb : ∀ b, A = some ⟨b, 0, none⟩ → w'.heap[b]? = w.heap[b]?) : OwnM w' base (.slice A n c) hs := by
  refine ⟨h.1, ?_⟩
  rcases h.2 with h1 | ⟨g, cap, cur, h1, h3, h4, h5⟩
  · exact .inl h1
  · injection h1 with e1 e2 e3
    subst e1 e2 e3
    exact .inr ⟨g, _, cur, rfl, h3, (hb g rfl).trans h4, h5⟩
theorem info_parts {i : Option TypeInfo} {z : Value} {size bytes : Nat} (h : i.map (fun i => (i.zero, i.size, i.bytes)) = some (some z, size, bytes)) : ∃ i0, i = some i0 ∧ i0.zero = some z ∧ i0.size = size ∧ i0.bytes = bytes := by
  cases i with
  | none => cases h
  | some i0 => simp at h; exact ⟨i0, rfl, h.1, h.2.1, h.2.2⟩
theorem info82 : (Tryz.prog.info? 121).map (fun i => (i.zero, i.size, i.bytes)) = some (some (.agg #[.int .i64 0, .int .i64 0]), 2, 16) := by kernel_rfl
theorem run_app (w : World) (ty : TypeId) (base : Nat) (v : Value) (xs : List Mom) (hown : OwnM w base v xs) (ad : Addr) (m : Mom) (c : Nat) (hat : w.cell? (ad.add 0) = some (.int .i64 m.id) ∧ w.cell? (ad.add 1) = some (.int .i64 m.at_)) (hn : xs.length ≤ 1000000) (hbase : base ≤ w.heap.size) :
    ∃ v' w', (Builtin.append_ #[106, 106] ty #[v, .slice (some ad) 1 c]).run Tryz.prog w = .ok v' w' ∧ OwnM w' base v' (xs ++ [m]) ∧ w.grownBy w' v.ownBlock ∧ (v'.ownBlock = v.ownBlock ∨ ∀ k, v'.ownBlock = some k → w.heap.size ≤ k) := by
  obtain ⟨i0, hi0, hz0, hz1, hz2⟩ := info_parts info82
  obtain ⟨v', w', hr, h1, h2, h3⟩ := run_append_own (P := Tryz.prog) w base 106 ty 121 i0 _ 2 16 Tryz.underlying106 hi0 hz0 hz1 hz2 rfl (by decide) v xs.length (cellsM xs) hown ad 1 c (cellsM [m]) (by rw [cells_len]; rfl) (fun j u hu => by
    have : j = 0 ∨ j = 1 ∨ 2 ≤ j := by omega
    rcases this with rfl | rfl | h
    · rw [hat.1]; exact hu
    · rw [hat.2]; exact hu
    · rw [List.getElem?_eq_none (by rw [cells_len]; simp; omega)] at hu; cases hu) (cells_one [m]) (by unfold maxLen; omega) (by omega) hbase
  have hnews : ∀ j u, (cellsM [m])[j]? = some u → w.cell? (ad.add j) = some u := fun j u hu => by
    have : j = 0 ∨ j = 1 ∨ 2 ≤ j := by omega
    rcases this with rfl | rfl | h
    · rw [hat.1]; exact hu
    · rw [hat.2]; exact hu
    · rw [List.getElem?_eq_none (by rw [cells_len]; simp; omega)] at hu; cases hu
  refine ⟨v', w', hr, ?_, h2, ?_⟩
  · unfold OwnM
    rw [cells_append, List.length_append]
    exact h1
  · rcases hown.2 with ⟨rfl, h0⟩ | ⟨g, cap, cur, rfl, hbg, hg, hnc, hcm, hcs, htake⟩
    · right
      have h4 := run_append_nil (P := Tryz.prog) w 106 ty 121 i0 _ Tryz.underlying106 hi0 hz0 ad 1 c (cellsM [m]) (by rw [cells_len, hz1]; rfl) hnews (by omega) (by omega) (by rw [hz2]; omega)
      rw [hr] at h4
      injection h4 with e1 e2
      subst e1
      intro k hk
      simp [Value.ownBlock] at hk
      omega
    · by_cases hroom : xs.length + 1 ≤ cap
      · left
        obtain ⟨w2, h4, _⟩ := run_append_fits (P := Tryz.prog) w base 106 ty 121 i0 2 Tryz.underlying106 hi0 hz1 g xs.length cap (cellsM xs) hown ad 1 c (cellsM [m]) (by rw [cells_len]; rfl) hnews (cells_one [m]) hroom
        rw [hr] at h4
        simp only [Result.ok.injEq] at h4
        rw [h4.1]
        simp only [Value.ownBlock]
      · right
        have holds : ∀ j u, (cellsM xs)[j]? = some u → w.cell? ((⟨g, 0, none⟩ : Addr).add j) = some u := World.ownsRow.cells hown (g := g) rfl
        have h4 := run_append_grow (P := Tryz.prog) w 106 ty 121 i0 _ Tryz.underlying106 hi0 hz0 ⟨g, 0, none⟩ xs.length cap (cellsM xs) (by rw [cells_len, hz1]) holds ad 1 c (cellsM [m]) (by rw [cells_len, hz1]; rfl) hnews (by omega) (by omega) (by rw [hz2]; exact growslice_fits (by omega) (by omega))
        rw [hr] at h4
        injection h4 with e1 e2
        subst e1
        intro k hk
        simp [Value.ownBlock] at hk
        omega
theorem wp_app (w : World) {o : Oper} {a : Act} {K : Act → World → Prop} {Q : Exit → Act → World → Prop} (s x : Operand)
    (ho : o.op = .call { callee := .builtin .append, args := #[s, x], argTypes := #[106, 106] })
    (base : Nat) (v : Value) (xs : List Mom) (hs : a.eval s = v) (hown : OwnM w base v xs) (ad : Addr) (m : Mom) (c : Nat) (hx : a.eval x = .slice (some ad) 1 c) (hat : w.cell? (ad.add 0) = some (.int .i64 m.id) ∧ w.cell? (ad.add 1) = some (.int .i64 m.at_)) (hn : xs.length ≤ 1000000) (hbase : base ≤ w.heap.size)
    (h : ∀ v' w', OwnM w' base v' (xs ++ [m]) → w.grownBy w' v.ownBlock → (v'.ownBlock = v.ownBlock ∨ ∀ k, v'.ownBlock = some k → w.heap.size ≤ k) → K (a.put o.dst v') w') : o.wp Tryz.prog a w K Q := by
  obtain ⟨v', w', hr, h2, h3, h4⟩ := run_app w o.type base v xs hown ad m c hat hn hbase
  unfold Oper.wp execOp
  simp only [ho, resolve, invoke, builtin, Sem.run_bind, Sem.run_pure, Result.andThen_ok, List.map_toArray, List.map_cons, List.map_nil, hs, hx, hr]
  exact h v' w' h2 h3 h4
theorem step_app (w : World) {ops : Array Oper} {o : Oper} {a : Act} {K : Act → World → Prop} {Q : Exit → Act → World → Prop} {E : Prop} (hgd : o.guard = none) (s x : Operand)
    (ho : o.op = .call { callee := .builtin .append, args := #[s, x], argTypes := #[106, 106] })
    (base : Nat) (v : Value) (xs : List Mom) (hs : a.eval s = v) (hown : OwnM w base v xs) (ad : Addr) (m : Mom) (c : Nat) (hx : a.eval x = .slice (some ad) 1 c) (hat : w.cell? (ad.add 0) = some (.int .i64 m.id) ∧ w.cell? (ad.add 1) = some (.int .i64 m.at_)) (hn : xs.length ≤ 1000000) (hbase : base ≤ w.heap.size)
    (h : ∀ v' w', OwnM w' base v' (xs ++ [m]) → w.grownBy w' v.ownBlock → (v'.ownBlock = v.ownBlock ∨ ∀ k, v'.ownBlock = some k → w.heap.size ≤ k) → K (a.put o.dst v') w') :
    if Region.wanted o (yielded ops a.tmps) = true then Oper.wp Tryz.prog o a w K Q else E := by
  have hw : Region.wanted o (yielded ops a.tmps) = true := by simp [Region.wanted, hgd]
  rw [if_pos hw]
  exact wp_app w s x ho base v xs hs hown ad m c hx hat hn hbase h
attribute [irreducible] OwnM
end Go.Proofs.YthndjhocmpelcaaGreat.Wat
namespace Go.Proofs.YthndjhocmpelcaaGreat.Wat
open Go.RowKit Kit
set_option linter.unusedVariables false
theorem keep1 {w w' : World} {a : Addr} {v : Value} (hb : Below w.heap.size w w') (h : w.cell? a = some v) : w'.cell? a = some v :=
  (hb.cell (World.block_lt_of_cell? w _ h)).trans h
def upF : Nat → List Mom → Nat → List Mom
  | 0, l, _ => l
  | f + 1, l, j => if j = 0 then l else match l[j]?, l[(j - 1) / 2]? with
    | some y, some x => if ltM y x then upF f ((l.set ((j - 1) / 2) y).set j x) ((j - 1) / 2) else l
    | _, _ => l
set_option maxRecDepth 100000 in
set_option maxHeartbeats 2000000 in
theorem up (g base b n c j0 : Nat) (hs : List Mom) (w : World) (hc : Hid (w.cell? ⟨g, 0, none⟩ = some (.slice (some ⟨b, 0, none⟩) n c))) (hm : Hid (OwnM w base (.slice (some ⟨b, 0, none⟩) n c) hs)) (hn : Hid (n = hs.length)) (hj : j0 < n) (hbig : n ≤ 1000000) (hgb : g ≠ b) (f0 : Nat) (hf : j0 < f0) (R : List Mom) (hR : Hid (upF f0 hs j0 = R)) :
    Calls Tryz.prog 95 #[.iface 124 (.pointer (some ⟨g, 0, none⟩)), .int .i64 (j0 : Int)] w fun e w' => e = .returned (.tuple #[]) ∧ Hid (OwnM w' base (.slice (some ⟨b, 0, none⟩) n c) R) ∧ R.length = n ∧ w.grownBy w' (some b) := by
  go_enter Tryz.func95, Tryz.ntmps95
  go_wp2_with fail
  go_loopw [1] (fun v wr => ∃ (j f : Nat) (cur : List Mom), v = .int .i64 (j : Int) ∧ j < n ∧ j < f ∧ Hid (n = cur.length) ∧ Hid (OwnM wr base (.slice (some ⟨b, 0, none⟩) n c) cur) ∧ Hid (w.grownBy wr (some b)) ∧ Hid (upF f cur j = R)) (fun v _ => (intOf v).toNat)
  case atStart => exact ⟨j0, f0, hs, rfl, hj, hf, hn, hm, Hid.mk_ (World.grownBy.refl _ _), hR⟩
  case round =>
    obtain ⟨j, f, cur, rfl, hjn, hjf, hcn, hown, hgr, hR⟩ := hrel
    obtain ⟨f, rfl⟩ : ∃ f', f = f' + 1 := ⟨f - 1, by omega⟩
    by_cases h0 : j = 0
    · subst h0
      have e : upF (f + 1) cur 0 = cur := rfl
      rw [e] at hR
      go_wp2_with fail
      go_end0
      have hR := hR.out
      subst hR
      exact ⟨rfl, hown, hcn.out.symm, hgr.out⟩
    · have hcell := hgr.out.cell hc.out (by simp; omega)
      have j1 : 1 ≤ j := by omega
      go_upto_region 1 with fail
      obtain ⟨p, hp⟩ : ∃ p, p = (j - 1) / 2 := ⟨_, rfl⟩
      have ep : ((j : Int) - 1) / 2 = (p : Int) := by omega
      have hpj : ((p : Int) == (j : Int)) = false := beq_eq_false_iff_ne.2 (by omega)
      have hplt : p < j := by omega
      rw [ep]
      obtain ⟨y, hy⟩ : ∃ y, cur[j]? = some y := ⟨_, List.getElem?_eq_getElem (by have := hcn.out; omega)⟩
      obtain ⟨x, hx⟩ : ∃ x, cur[p]? = some x := ⟨_, List.getElem?_eq_getElem (by have := hcn.out; omega)⟩
      have eR : upF (f + 1) cur j = if ltM y x then upF f ((cur.set p y).set j x) p else cur := by
        show (if j = 0 then cur else match cur[j]?, cur[(j - 1) / 2]? with
          | some y, some x => if ltM y x then upF f ((cur.set ((j - 1) / 2) y).set j x) ((j - 1) / 2) else cur
          | _, _ => cur) = _
        rw [if_neg h0, ← hp, hy, hx]
      rw [eR] at hR
      have HX := Hid.mk_ hx
      have HY := Hid.mk_ hy
      have ml := m_less wr g _ hcell
      have M1 := Hid.mk_ hown.out.at_
      clear ep hp hx hy eR hcell
      cases hq : ltM y x with
      | false =>
        rw [hq] at hR
        have HQ := Hid.mk_ hq.symm
        clear hq
        go_wp2_with (go_at_call 122; refine (less b n c j p y x cur _ M1 HY HX hjn (by omega) hbig false HQ).mono ?_; rintro e w2 ⟨rfl, b2⟩)
        go_end0
        have hR : cur = R := by simpa using hR.out
        subst hR
        exact ⟨rfl, Hid.mk_ (hown.out.keep b2), hcn.out.symm, gb_trans hgr.out (gb_below b2)⟩
      | true =>
        rw [hq] at hR
        have HQ := Hid.mk_ hq.symm
        clear hq
        go_wp2_with (go_at_call 122; refine (less b n c j p y x cur _ M1 HY HX hjn (by omega) hbig true HQ).mono ?_; rintro e w2 ⟨rfl, b2⟩; have ms := m_swap w2 g _ (keep1 b2 (hgr.out.cell hc.out (by simp; omega))))
        refine (swap0 base b n c p j x y cur _ (Hid.mk_ (hown.out.keep b2)) HX HY (by omega) hjn hbig).mono ?_
        rintro e w3 ⟨rfl, o3, g3⟩
        go_wp2_with fail
        go_roundw
        case rel => exact ⟨p, f, _, rfl, by omega, by omega, Hid.mk_ (by simp; exact hcn.out), Hid.mk_ o3, Hid.mk_ (gb_trans (gb_trans hgr.out (gb_below b2)) g3), Hid.mk_ (by simpa using hR.out)⟩
        case measure => simp [intOf]; omega
end Go.Proofs.YthndjhocmpelcaaGreat.Wat
namespace Go.Proofs.YthndjhocmpelcaaGreat.Wat
open Go.RowKit Kit
set_option linter.unusedVariables false
def fn (l : List Mom) (k : Nat) : Mom := l[k]?.getD default
theorem fn_get {l : List Mom} {k : Nat} (h : k < l.length) : l[k]? = some (fn l k) := by
  unfold fn
  rw [List.getElem?_eq_getElem h]
  rfl
def sw (l : List Mom) (i j : Nat) : List Mom := (l.set i (fn l j)).set j (fn l i)
theorem sw_len (l : List Mom) (i j : Nat) : (sw l i j).length = l.length := by simp [sw]
def downF : Nat → List Mom → Nat → Nat → List Mom × Nat
  | 0, l, i, _ => (l, i)
  | f + 1, l, i, n => if 2 * i + 1 < n then
      (if ltM (fn l (Heap.kid ltM (fn l) n i)) (fn l i) then downF f (sw l i (Heap.kid ltM (fn l) n i)) (Heap.kid ltM (fn l) n i) n else (l, i))
    else (l, i)
theorem lessI (b n c i k : Nat) (iI kI : Int) (hs : List Mom) (w : World) (hm : Hid (MAt w b hs)) (ei : Hid (iI = (i : Int))) (ek : Hid (kI = (k : Int))) (hin : Hid (i < n)) (hkn : Hid (k < n)) (hl : Hid (n = hs.length)) (hn : n ≤ 1000000) (q : Bool) (hq : Hid (q = ltM (fn hs i) (fn hs k))) :
    Calls Tryz.prog 122 #[.slice (some ⟨b, 0, none⟩) n c, .int .i64 iI, .int .i64 kI] w fun e w' => e = .returned (.bool q) ∧ Below w.heap.size w w' := by
  rw [ei.out, ek.out]
  have h1 := hin.out
  have h2 := hkn.out
  have h3 := hl.out
  exact less b n c i k (fn hs i) (fn hs k) hs w hm (Hid.mk_ (fn_get (by omega))) (Hid.mk_ (fn_get (by omega))) h1 h2 hn q hq
theorem swapI (base b n c i k : Nat) (iI kI : Int) (hs : List Mom) (w : World) (hm : Hid (OwnM w base (.slice (some ⟨b, 0, none⟩) n c) hs)) (ei : Hid (iI = (i : Int))) (ek : Hid (kI = (k : Int))) (hin : Hid (i < n)) (hkn : Hid (k < n)) (hl : Hid (n = hs.length)) (hn : n ≤ 1000000) :
    Calls Tryz.prog 123 #[.slice (some ⟨b, 0, none⟩) n c, .int .i64 iI, .int .i64 kI] w fun e w' => e = .returned (.tuple #[]) ∧ OwnM w' base (.slice (some ⟨b, 0, none⟩) n c) (sw hs i k) ∧ w.grownBy w' (some b) := by
  rw [ei.out, ek.out]
  have h1 := hin.out
  have h2 := hkn.out
  have h3 := hl.out
  exact swap0 base b n c i k (fn hs i) (fn hs k) hs w hm (Hid.mk_ (fn_get (by omega))) (Hid.mk_ (fn_get (by omega))) h1 h2 hn
set_option maxRecDepth 100000 in
set_option maxHeartbeats 4000000 in
theorem down (g base b n c i0 n0 : Nat) (hs : List Mom) (w : World) (hc : Hid (w.cell? ⟨g, 0, none⟩ = some (.slice (some ⟨b, 0, none⟩) n c))) (hm : Hid (OwnM w base (.slice (some ⟨b, 0, none⟩) n c) hs)) (hn : Hid (n = hs.length)) (hn0 : n0 ≤ n) (hi0 : i0 ≤ n0) (hbig : n ≤ 1000000) (hgb : g ≠ b) (f0 : Nat) (hf : n0 < i0 + f0) (R : List Mom) (iR : Nat) (hR : Hid (downF f0 hs i0 n0 = (R, iR))) :
    Calls Tryz.prog 91 #[.iface 124 (.pointer (some ⟨g, 0, none⟩)), .int .i64 (i0 : Int), .int .i64 (n0 : Int)] w fun e w' => e = .returned (.bool (decide (i0 < iR))) ∧ Hid (OwnM w' base (.slice (some ⟨b, 0, none⟩) n c) R) ∧ R.length = n ∧ w.grownBy w' (some b) := by
  go_enter Tryz.func91, Tryz.ntmps91
  go_wp2_with fail
  go_loopw [7] (fun v wr => ∃ (i f : Nat) (cur : List Mom), v = .int .i64 (i : Int) ∧ i ≤ n0 ∧ n0 < i + f ∧ Hid (n = cur.length) ∧ Hid (OwnM wr base (.slice (some ⟨b, 0, none⟩) n c) cur) ∧ Hid (w.grownBy wr (some b)) ∧ Hid (downF f cur i n0 = (R, iR))) (fun v _ => n0 - (intOf v).toNat)
  case atStart => exact ⟨i0, f0, hs, rfl, hi0, hf, hn, hm, Hid.mk_ (World.grownBy.refl _ _), hR⟩
  case round =>
    obtain ⟨i, f, cur, rfl, hi, hfi, hcn, hown, hgr, hR⟩ := hrel
    obtain ⟨f, rfl⟩ : ∃ f', f = f' + 1 := ⟨f - 1, by omega⟩
    by_cases h1 : 2 * i + 1 < n0
    · have eR : downF (f + 1) cur i n0 = if ltM (fn cur (Heap.kid ltM (fn cur) n0 i)) (fn cur i) then downF f (sw cur i (Heap.kid ltM (fn cur) n0 i)) (Heap.kid ltM (fn cur) n0 i) n0 else (cur, i) := by
        rw [downF, if_pos h1]
      have hcell := hgr.out.cell hc.out (by simp; omega)
      have ml := m_less wr g _ hcell
      have M1 := Hid.mk_ hown.out.at_
      clear hcell
      by_cases h2 : 2 * i + 2 < n0
      · cases hq2 : ltM (fn cur (2 * i + 2)) (fn cur (2 * i + 1)) with
        | false =>
          have ek : Heap.kid ltM (fn cur) n0 i = 2 * i + 1 := by unfold Heap.kid; rw [if_neg (fun h => by rw [hq2] at h; cases h.2)]
          rw [eR, ek] at hR
          have HQ2 := Hid.mk_ hq2.symm
          clear hq2 eR ek
          go_upto_region 6 with fail
          go_upto_region 8 with (go_at_call 122; refine (lessI b n c (2 * i + 2) (2 * i + 1) _ _ cur _ M1 (Hid.mk_ (by omega)) (Hid.mk_ (by omega)) (Hid.mk_ (by omega)) (Hid.mk_ (by omega)) hcn hbig false HQ2).mono ?_; rintro e w2 ⟨rfl, b2⟩)
          have O2 := Hid.mk_ (hown.out.keep b2)
          have M2 := Hid.mk_ O2.out.at_
          have G2 := Hid.mk_ (gb_trans hgr.out (gb_below b2))
          have ml2 := m_less w2 g _ (G2.out.cell hc.out (by simp; omega))
          clear ml b2 M1 hown hgr
          have ml := ml2
          clear ml2
          cases hq : ltM (fn cur (2 * i + 1)) (fn cur i) with
          | false =>
            rw [hq] at hR
            have HQ := Hid.mk_ hq.symm
            clear hq
            go_wp2_with (go_at_call 122; refine (lessI b n c (2 * i + 1) i _ _ cur _ M2 (Hid.mk_ (by omega)) (Hid.mk_ rfl) (Hid.mk_ (by omega)) (Hid.mk_ (by omega)) hcn hbig false HQ).mono ?_; rintro e w3 ⟨rfl, b3⟩)
            go_ret
            have hR2 : (cur, i) = (R, iR) := by simpa using hR.out
            injection hR2 with r1 r2
            subst r1 r2
            refine ⟨by simp, Hid.mk_ (O2.out.keep b3), hcn.out.symm, gb_trans G2.out (gb_below b3)⟩
          | true =>
            rw [hq] at hR
            have HQ := Hid.mk_ hq.symm
            clear hq
            go_wp2_with (go_at_call 122; refine (lessI b n c (2 * i + 1) i _ _ cur _ M2 (Hid.mk_ (by omega)) (Hid.mk_ rfl) (Hid.mk_ (by omega)) (Hid.mk_ (by omega)) hcn hbig true HQ).mono ?_; rintro e w3 ⟨rfl, b3⟩; have ms := m_swap w3 g _ (keep1 b3 (G2.out.cell hc.out (by simp; omega))))
            refine (swapI base b n c i (2 * i + 1) _ _ cur _ (Hid.mk_ (O2.out.keep b3)) (Hid.mk_ rfl) (Hid.mk_ (by omega)) (Hid.mk_ (by omega)) (Hid.mk_ (by omega)) hcn hbig).mono ?_
            rintro e w4 ⟨rfl, o4, g4⟩
            have O4 := Hid.mk_ o4
            have G4 := Hid.mk_ (gb_trans (gb_trans G2.out (gb_below b3)) g4)
            have H4 : Hid (n = (sw cur i ((2 * i + 1))).length) := Hid.mk_ (by rw [sw_len]; exact hcn.out)
            have hR2 : Hid (downF f (sw cur i ((2 * i + 1))) ((2 * i + 1)) n0 = (R, iR)) := Hid.mk_ (by simpa using hR.out)
            clear o4 g4 b3 ml hR
            generalize sw cur i ((2 * i + 1)) = cur2 at *
            go_wp2_with fail
            first
              | exact ⟨⟨(2 * i + 1), f, cur2, by go_num, by omega, by omega, H4, O4, G4, hR2⟩, by simp [intOf]; omega⟩
              | (go_roundw
                 case rel => exact ⟨(2 * i + 1), f, cur2, by go_num, by omega, by omega, H4, O4, G4, hR2⟩
                 case measure => simp [intOf]; omega)
        | true =>
          have ek : Heap.kid ltM (fn cur) n0 i = 2 * i + 2 := by unfold Heap.kid; rw [if_pos ⟨h2, hq2⟩]
          rw [eR, ek] at hR
          have HQ2 := Hid.mk_ hq2.symm
          clear hq2 eR ek
          go_upto_region 6 with fail
          go_upto_region 8 with (go_at_call 122; refine (lessI b n c (2 * i + 2) (2 * i + 1) _ _ cur _ M1 (Hid.mk_ (by omega)) (Hid.mk_ (by omega)) (Hid.mk_ (by omega)) (Hid.mk_ (by omega)) hcn hbig true HQ2).mono ?_; rintro e w2 ⟨rfl, b2⟩)
          have O2 := Hid.mk_ (hown.out.keep b2)
          have M2 := Hid.mk_ O2.out.at_
          have G2 := Hid.mk_ (gb_trans hgr.out (gb_below b2))
          have ml2 := m_less w2 g _ (G2.out.cell hc.out (by simp; omega))
          clear ml b2 M1 hown hgr
          have ml := ml2
          clear ml2
          cases hq : ltM (fn cur (2 * i + 2)) (fn cur i) with
          | false =>
            rw [hq] at hR
            have HQ := Hid.mk_ hq.symm
            clear hq
            go_wp2_with (go_at_call 122; refine (lessI b n c (2 * i + 2) i _ _ cur _ M2 (Hid.mk_ (by omega)) (Hid.mk_ rfl) (Hid.mk_ (by omega)) (Hid.mk_ (by omega)) hcn hbig false HQ).mono ?_; rintro e w3 ⟨rfl, b3⟩)
            go_ret
            have hR2 : (cur, i) = (R, iR) := by simpa using hR.out
            injection hR2 with r1 r2
            subst r1 r2
            refine ⟨by simp, Hid.mk_ (O2.out.keep b3), hcn.out.symm, gb_trans G2.out (gb_below b3)⟩
          | true =>
            rw [hq] at hR
            have HQ := Hid.mk_ hq.symm
            clear hq
            go_wp2_with (go_at_call 122; refine (lessI b n c (2 * i + 2) i _ _ cur _ M2 (Hid.mk_ (by omega)) (Hid.mk_ rfl) (Hid.mk_ (by omega)) (Hid.mk_ (by omega)) hcn hbig true HQ).mono ?_; rintro e w3 ⟨rfl, b3⟩; have ms := m_swap w3 g _ (keep1 b3 (G2.out.cell hc.out (by simp; omega))))
            refine (swapI base b n c i (2 * i + 2) _ _ cur _ (Hid.mk_ (O2.out.keep b3)) (Hid.mk_ rfl) (Hid.mk_ (by omega)) (Hid.mk_ (by omega)) (Hid.mk_ (by omega)) hcn hbig).mono ?_
            rintro e w4 ⟨rfl, o4, g4⟩
            have O4 := Hid.mk_ o4
            have G4 := Hid.mk_ (gb_trans (gb_trans G2.out (gb_below b3)) g4)
            have H4 : Hid (n = (sw cur i ((2 * i + 2))).length) := Hid.mk_ (by rw [sw_len]; exact hcn.out)
            have hR2 : Hid (downF f (sw cur i ((2 * i + 2))) ((2 * i + 2)) n0 = (R, iR)) := Hid.mk_ (by simpa using hR.out)
            clear o4 g4 b3 ml hR
            generalize sw cur i ((2 * i + 2)) = cur2 at *
            go_wp2_with fail
            first
              | exact ⟨⟨(2 * i + 2), f, cur2, by go_num, by omega, by omega, H4, O4, G4, hR2⟩, by simp [intOf]; omega⟩
              | (go_roundw
                 case rel => exact ⟨(2 * i + 2), f, cur2, by go_num, by omega, by omega, H4, O4, G4, hR2⟩
                 case measure => simp [intOf]; omega)
      · have ek : Heap.kid ltM (fn cur) n0 i = 2 * i + 1 := by unfold Heap.kid; rw [if_neg (fun h => h2 h.1)]
        rw [eR, ek] at hR
        clear eR ek
        go_upto_region 8 with fail
        cases hq : ltM (fn cur (2 * i + 1)) (fn cur i) with
        | false =>
          rw [hq] at hR
          have HQ := Hid.mk_ hq.symm
          clear hq
          go_wp2_with (go_at_call 122; refine (lessI b n c (2 * i + 1) i _ _ cur _ M1 (Hid.mk_ (by omega)) (Hid.mk_ rfl) (Hid.mk_ (by omega)) (Hid.mk_ (by omega)) hcn hbig false HQ).mono ?_; rintro e w3 ⟨rfl, b3⟩)
          go_ret
          have hR2 : (cur, i) = (R, iR) := by simpa using hR.out
          injection hR2 with r1 r2
          subst r1 r2
          refine ⟨by simp, Hid.mk_ (hown.out.keep b3), hcn.out.symm, gb_trans hgr.out (gb_below b3)⟩
        | true =>
          rw [hq] at hR
          have HQ := Hid.mk_ hq.symm
          clear hq
          go_wp2_with (go_at_call 122; refine (lessI b n c (2 * i + 1) i _ _ cur _ M1 (Hid.mk_ (by omega)) (Hid.mk_ rfl) (Hid.mk_ (by omega)) (Hid.mk_ (by omega)) hcn hbig true HQ).mono ?_; rintro e w3 ⟨rfl, b3⟩; have ms := m_swap w3 g _ (keep1 b3 (hgr.out.cell hc.out (by simp; omega))))
          refine (swapI base b n c i (2 * i + 1) _ _ cur _ (Hid.mk_ (hown.out.keep b3)) (Hid.mk_ rfl) (Hid.mk_ (by omega)) (Hid.mk_ (by omega)) (Hid.mk_ (by omega)) hcn hbig).mono ?_
          rintro e w4 ⟨rfl, o4, g4⟩
          have O4 := Hid.mk_ o4
          have G4 := Hid.mk_ (gb_trans (gb_trans hgr.out (gb_below b3)) g4)
          have H4 : Hid (n = (sw cur i ((2 * i + 1))).length) := Hid.mk_ (by rw [sw_len]; exact hcn.out)
          have hR2 : Hid (downF f (sw cur i ((2 * i + 1))) ((2 * i + 1)) n0 = (R, iR)) := Hid.mk_ (by simpa using hR.out)
          clear o4 g4 b3 ml hR
          generalize sw cur i ((2 * i + 1)) = cur2 at *
          go_wp2_with fail
          first
            | exact ⟨⟨(2 * i + 1), f, cur2, by go_num, by omega, by omega, H4, O4, G4, hR2⟩, by simp [intOf]; omega⟩
            | (go_roundw
               case rel => exact ⟨(2 * i + 1), f, cur2, by go_num, by omega, by omega, H4, O4, G4, hR2⟩
               case measure => simp [intOf]; omega)
    · have eR : downF (f + 1) cur i n0 = (cur, i) := by rw [downF, if_neg h1]
      rw [eR] at hR
      go_wp2_with fail
      go_ret
      have hR2 := hR.out
      injection hR2 with r1 r2
      subst r1 r2
      exact ⟨by simp, hown, hcn.out.symm, hgr.out⟩
end Go.Proofs.YthndjhocmpelcaaGreat.Wat
namespace Go.Proofs.YthndjhocmpelcaaGreat.Wat
open Go.RowKit Kit Go.Proofs.YthndjhocmpelcaaGreatW.PrintLast
set_option linter.unusedVariables false
/-- What a call keeps: all blocks but those of S. -/
structure Wr (w w' : World) (S : Nat → Prop) : Prop where
  os : w'.os = w.os
  tape : w'.tape = w.tape
  output : w'.output = w.output
  size : w.heap.size ≤ w'.heap.size
  block : ∀ k, k < w.heap.size → ¬ S k → w'.heap[k]? = w.heap[k]?
theorem Wr.below {w w' : World} {S : Nat → Prop} (h : Wr w w' S) {B : Nat} (hB : B ≤ w.heap.size) (hS : ∀ k, S k → B ≤ k) : Below B w w' :=
  ⟨h.os, h.tape, h.output, h.size, fun k hk => h.block k (by omega) (fun hs => by have := hS k hs; omega)⟩
theorem Wr.of_below {w w' : World} (h : Below w.heap.size w w') (S : Nat → Prop) : Wr w w' S := ⟨h.os, h.tape, h.output, h.size, fun k hk _ => h.block k hk⟩
theorem Wr.of_gb {w w' : World} {b : Nat} (h : w.grownBy w' (some b)) : Wr w w' (fun k => k = b) := ⟨h.os, h.tape, h.output, h.size, fun k hk hne => h.block k hk (fun e => hne (by injection e))⟩
theorem Wr.then_ {a b c : World} {S T : Nat → Prop} (h : Wr a b S) (k : Wr b c T) (hs : ∀ i, T i → S i ∨ a.heap.size ≤ i) : Wr a c S :=
  ⟨k.os.trans h.os, k.tape.trans h.tape, k.output.trans h.output, Nat.le_trans h.size k.size, fun i hi hn =>
    (k.block i (Nat.lt_of_lt_of_le hi h.size) (fun h2 => (hs i h2).elim hn (fun h3 => by omega))).trans (h.block i hi hn)⟩
theorem Wr.mono {a b : World} {S T : Nat → Prop} (h : Wr a b S) (hs : ∀ i, S i → T i) : Wr a b T := ⟨h.os, h.tape, h.output, h.size, fun k hk hn => h.block k hk (fun e => hn (hs k e))⟩
theorem Wr.cell {w w' : World} {S : Nat → Prop} (h : Wr w w' S) {b o : Nat} {v : Value} (hc : w.cell? ⟨b, o, none⟩ = some v) (hn : ¬ S b) : w'.cell? ⟨b, o, none⟩ = some v := by
  have := h.block b (World.block_lt_of_cell? w _ hc) hn
  rw [← hc]
  simp [World.cell?, this]
theorem Wr.frozen {w w' : World} {S : Nat → Prop} (h : Wr w w' S) {b o : Nat} (hb : b < w.heap.size) (hn : ¬ S b) : w'.frozen? ⟨b, o, none⟩ = w.frozen? ⟨b, o, none⟩ := by
  have := h.block b hb hn
  simp [World.frozen?, this]
theorem Wr.set (w : World) (g o : Nat) (v : Value) : Wr w (w.setCell ⟨g, o, none⟩ v) (fun k => k = g) :=
  ⟨rfl, rfl, rfl, by simp [World.setCell], fun k hk hne => Below.heap_setCell _ _ _ _ hne⟩
/-- A heap whose row's address lies in block g. -/
structure HpS (w : World) (g : Nat) (A : Option Addr) (n c : Nat) (hs : List Mom) : Prop where
  cell : w.cell? ⟨g, 0, none⟩ = some (.slice A n c)
  fr : w.frozen? ⟨g, 0, none⟩ = false
  own : OwnM w (g + 1) (.slice A n c) hs
theorem HpS.lt {w : World} {g : Nat} {A : Option Addr} {n c : Nat} {hs : List Mom} (h : HpS w g A n c hs) : g < w.heap.size := World.block_lt_of_cell? w _ h.cell
def Its (g : Nat) (A : Option Addr) : Nat → Prop := fun k => k = g ∨ ∃ off, A = some ⟨k, off, none⟩
theorem HpS.wr {w w' : World} {S : Nat → Prop} {g : Nat} {A : Option Addr} {n c : Nat} {hs : List Mom} (h : HpS w g A n c hs) (hw : Wr w w' S) (hg : ¬ S g) (hA : ∀ b off, A = some ⟨b, off, none⟩ → ¬ S b) : HpS w' g A n c hs :=
  ⟨hw.cell h.cell hg, (hw.frozen h.lt hg).trans h.fr, h.own.keepB fun b e => hw.block b (h.own.block b 0 e).2 (hA b 0 e)⟩
theorem HpS.below {w w' : World} {g : Nat} {A : Option Addr} {n c : Nat} {hs : List Mom} (h : HpS w g A n c hs) (hw : Below w.heap.size w w') : HpS w' g A n c hs :=
  h.wr (Wr.of_below hw (fun _ => False)) (fun h => h) (fun _ _ _ h => h)
/-- A new row is written. -/
theorem HpS.put {w : World} {g : Nat} {v : Value} {A : Option Addr} {n c : Nat} {hs : List Mom} (h1 : w.cell? ⟨g, 0, none⟩ = some v) (hf : w.frozen? ⟨g, 0, none⟩ = false) (ho : OwnM w (g + 1) (.slice A n c) hs) : HpS (w.setCell ⟨g, 0, none⟩ (.slice A n c)) g A n c hs :=
  ⟨World.cell?_setCell_same _ _ _ h1, (World.frozen?_setCell _ _ _ _).trans hf, ho.keepB fun b e => Below.heap_setCell _ _ _ _ (by have := (ho.block b 0 e).1; simp only; omega)⟩
def boxM (m : Mom) : Value := .iface 121 (.agg #[.int .i64 m.id, .int .i64 m.at_])
set_option maxHeartbeats 2000000 in
/-- (*row).Pop: the last one off. -/
theorem pop81 {w : World} {g n c : Nat} {A : Option Addr} {hs : List Mom} {m : Mom} (h : Hid (HpS w g A n c (hs ++ [m]))) (hn : n ≤ 1000000) :
    Calls Tryz.prog 124 #[.pointer (some ⟨g, 0, none⟩)] w fun e w' => e = .returned (boxM m) ∧ ∃ k, Hid (k = n - 1) ∧ Hid (HpS w' g A k c hs) ∧ Wr w w' (fun k => k = g) := by
  obtain ⟨b, rfl, hb1, hb2⟩ := h.out.own.some_ (by simp)
  obtain ⟨hl, hcap, hmax⟩ := h.out.own.len
  obtain ⟨k, hk⟩ : ∃ k, k = hs.length := ⟨_, rfl⟩
  have hl' : n = k + 1 := by rw [hl, hk]; simp
  obtain ⟨x0, x1, _, _⟩ := h.out.own.at_ k m (by rw [hk]; simp)
  have c1 := h.out.cell
  have f1 := h.out.fr
  have ht := h.out.own.take k (by omega)
  rw [List.take_left' hk.symm] at ht
  have HT := Hid.mk_ ht
  have HK := Hid.mk_ hl'
  clear hl hk ht
  have k0 : (0 : Int) ≤ (k : Int) := by omega
  have k1 : (k : Int) < (n : Int) := by omega
  have k2 : (k : Int) ≤ (c : Int) := by omega
  have k3 : (n : Int) - 1 = (k : Int) := by omega
  have hgb : g ≠ b := by omega
  clear hl'
  have hgz := h.out.lt
  go_enter Tryz.func124, Tryz.ntmps124
  go_upto_region 3 with fail
  have a1 : Below w.heap.size w (w.alloc (.cells #[.int .i64 m.id, .int .i64 m.at_] 121)) := (Below.refl _ _).alloc (Nat.le_refl _) _
  have h2 := Hid.mk_ (h.out.below a1)
  have HT2 := Hid.mk_ (HT.out.keepB fun b' e => a1.block b' (HT.out.block b' 0 e).2)
  have cm0 : (w.alloc (.cells #[.int .i64 m.id, .int .i64 m.at_] 121)).cell? ⟨w.heap.size, 0, none⟩ = some (.int .i64 m.id) := by rw [World.cell?_alloc_new]; rfl
  have cm1 : (w.alloc (.cells #[.int .i64 m.id, .int .i64 m.at_] 121)).cell? ⟨w.heap.size, 1, none⟩ = some (.int .i64 m.at_) := by rw [World.cell?_alloc_new]; rfl
  have A1 := Hid.mk_ a1
  clear a1 HT h c1 f1 x0 x1
  generalize (w.alloc (.cells #[.int .i64 m.id, .int .i64 m.at_] 121)) = w2 at *
  have hgq : g ≠ w.heap.size := by omega
  have c1 := h2.out.cell
  have f1 := h2.out.fr
  go_upto_region 4 with fail
  have P3 := Hid.mk_ (HpS.put c1 f1 HT2.out)
  have W3 := Hid.mk_ (Wr.set w2 g 0 (.slice (some ⟨b, 0, none⟩) k c))
  have cn0 := W3.out.cell cm0 (by omega)
  have cn1 := W3.out.cell cm1 (by omega)
  clear cm0 cm1 c1 f1
  generalize w2.setCell ⟨g, 0, none⟩ (.slice (some ⟨b, 0, none⟩) k c) = w3 at *
  go_wp2_with fail
  go_ret
  exact ⟨rfl, k, Hid.mk_ (by have := HK.out; omega), P3, (Wr.of_below A1.out _).then_ W3.out (fun i hi => .inl hi)⟩
theorem OwnM.addr {w : World} {base : Nat} {A : Option Addr} {n c : Nat} {hs : List Mom} (h : OwnM w base (.slice A n c) hs) : A = none ∨ ∃ b, A = some ⟨b, 0, none⟩ ∧ base ≤ b ∧ b < w.heap.size := by
  have h' := h
  unfold OwnM at h
  rcases h.2 with ⟨h1, h2⟩ | ⟨g, cap, cur, h1, h3, h4, _⟩
  · injection h1 with e1
    exact .inl e1
  · injection h1 with e1 e2 e3
    exact .inr ⟨g, e1, h3, (Array.getElem?_eq_some_iff.1 h4).1⟩
theorem ta (v : Value) (w : World) : (Instr.typeAssert (.iface 121 v) 20 121 true).run Tryz.prog w = .ok (.tuple #[v, .bool true]) w := by kernel_rfl
set_option maxRecDepth 100000 in
set_option maxHeartbeats 2000000 in
/-- (*row).Push: one more. -/
theorem push82 {w : World} {g n c : Nat} {A : Option Addr} {hs : List Mom} (m : Mom) (h : Hid (HpS w g A n c hs)) (hn : n ≤ 1000000) :
    Calls Tryz.prog 125 #[.pointer (some ⟨g, 0, none⟩), boxM m] w fun e w' => e = .returned (.tuple #[]) ∧ ∃ A' n' c', Hid (HpS w' g A' n' c' (hs ++ [m])) ∧ Hid (∀ b off, A' = some ⟨b, off, none⟩ → A = some ⟨b, off, none⟩ ∨ w.heap.size ≤ b) ∧ Hid (Wr w w' (Its g A)) := by
  have hgz := h.out.lt
  unfold boxM
  have hta := ta
  go_enter Tryz.func125, Tryz.ntmps125
  go_upto_region 2 with fail
  have a1 : Below w.heap.size w (w.alloc (.cells #[.int .i64 m.id, .int .i64 m.at_] 121)) := (Below.refl _ _).alloc (Nat.le_refl _) _
  have h2 := Hid.mk_ (h.out.below a1)
  have cm0 : (w.alloc (.cells #[.int .i64 m.id, .int .i64 m.at_] 121)).cell? ⟨w.heap.size, 0, none⟩ = some (.int .i64 m.id) := by rw [World.cell?_alloc_new]; rfl
  have cm1 : (w.alloc (.cells #[.int .i64 m.id, .int .i64 m.at_] 121)).cell? ⟨w.heap.size, 1, none⟩ = some (.int .i64 m.at_) := by rw [World.cell?_alloc_new]; rfl
  have A1 := Hid.mk_ a1
  clear a1
  generalize (w.alloc (.cells #[.int .i64 m.id, .int .i64 m.at_] 121)) = w2 at *
  generalize hq : w.heap.size = q at *
  have HQ := Hid.mk_ hq
  clear hq
  have c1 := h2.out.cell
  refine wp_region_last_drew (S := fun w' => w'.cell? ⟨g, 0, none⟩ = some (.slice A n c) ∧ w'.cell? ⟨q, 0, none⟩ = some (.int .i64 m.id) ∧ w'.cell? ⟨q, 1, none⟩ = some (.int .i64 m.at_)) (ds := [8]) (by kernel_rfl) ⟨c1, cm0, cm1⟩ (fun hHeld => ?_)
  refine' wpAnyLast_take (i := 0) (oi := _) (v := _) ?hi0 (by kernel_rfl) (by kernel_rfl) (by kernel_rfl) (by kernel_rfl) (by kernel_rfl) ?hQ0 (Or.inl ⟨?hw0, ?hy0⟩) (by assumption) ?rest0
  case hi0 => exact (by simp only [List.getElem?_toArray, List.getElem?_cons_zero]; rfl)
  case hQ0 => exact fun _ _ _ h => h
  case hw0 => rfl
  case hy0 =>
    intro w hSw
    try dsimp only at hSw
    go_simp
    all_goals with_reducible rfl
  try simp only [Act.put, List.setIfInBounds_toArray, List.set_cons_zero, List.set_cons_succ]
  refine' wpAnyLast_take (i := 1) (oi := _) (v := _) ?hi1 (by kernel_rfl) (by kernel_rfl) (by kernel_rfl) (by kernel_rfl) (by kernel_rfl) ?hQ1 (Or.inl ⟨?hw1, ?hy1⟩) (by assumption) ?rest1
  case hi1 => exact (by simp only [List.getElem?_toArray, List.getElem?_cons_zero, List.getElem?_cons_succ]; rfl)
  case hQ1 => exact fun _ _ _ h => h
  case hw1 => rfl
  case hy1 =>
    intro w hSw
    try dsimp only at hSw
    go_simp
    all_goals with_reducible rfl
  try simp only [Act.put, List.setIfInBounds_toArray, List.set_cons_zero, List.set_cons_succ]
  refine' wpAnyLast_take (i := 2) (oi := _) (v := _) ?hi2 (by kernel_rfl) (by kernel_rfl) (by kernel_rfl) (by kernel_rfl) (by kernel_rfl) ?hQ2 (Or.inl ⟨?hw2, ?hy2⟩) (by assumption) ?rest2
  case hi2 => exact (by simp only [List.getElem?_toArray, List.getElem?_cons_zero, List.getElem?_cons_succ]; rfl)
  case hQ2 => exact fun _ _ _ h => h
  case hw2 => rfl
  case hy2 =>
    intro w hSw
    try dsimp only at hSw
    go_simp
    all_goals with_reducible rfl
  try simp only [Act.put, List.setIfInBounds_toArray, List.set_cons_zero, List.set_cons_succ]
  refine' wpAnyLast_take (i := 3) (oi := _) (v := _) ?hi3 (by kernel_rfl) (by kernel_rfl) (by kernel_rfl) (by kernel_rfl) (by kernel_rfl) ?hQ3 (Or.inl ⟨?hw3, ?hy3⟩) (by assumption) ?rest3
  case hi3 => exact (by simp only [List.getElem?_toArray, List.getElem?_cons_zero, List.getElem?_cons_succ]; rfl)
  case hQ3 => exact fun _ _ _ h => h
  case hw3 => rfl
  case hy3 =>
    intro w hSw
    try dsimp only at hSw
    go_simp
    all_goals with_reducible rfl
  try simp only [Act.put, List.setIfInBounds_toArray, List.set_cons_zero, List.set_cons_succ]
  refine' wpAnyLast_take (i := 4) (oi := _) (v := _) ?hi4 (by kernel_rfl) (by kernel_rfl) (by kernel_rfl) (by kernel_rfl) (by kernel_rfl) ?hQ4 (Or.inl ⟨?hw4, ?hy4⟩) (by assumption) ?rest4
  case hi4 => exact (by simp only [List.getElem?_toArray, List.getElem?_cons_zero, List.getElem?_cons_succ]; rfl)
  case hQ4 => exact fun _ _ _ h => h
  case hw4 => rfl
  case hy4 =>
    intro w hSw
    try dsimp only at hSw
    go_simp
    all_goals with_reducible rfl
  try simp only [Act.put, List.setIfInBounds_toArray, List.set_cons_zero, List.set_cons_succ]
  refine wpAnyLast_ready (rs := [5]) (by kernel_rfl) (by simp) ?_
  refine AllReadyL.cons (by simp only [List.getElem?_toArray, List.getElem?_cons_zero, List.getElem?_cons_succ]; rfl) (by simp) (fun K hK => ?_) AllReadyL.nil
  go_simp
  have b3 : Below w2.heap.size w2 (w2.alloc (.cells #[.int .i64 m.id, .int .i64 m.at_] 121)).drew := ((Below.refl _ _).alloc (Nat.le_refl _) _).drew
  have hn0 : (w2.alloc (.cells #[.int .i64 m.id, .int .i64 m.at_] 121)).drew.cell? ⟨w2.heap.size, 0, none⟩ = some (.int .i64 m.id) := by
    show (w2.alloc (.cells #[.int .i64 m.id, .int .i64 m.at_] 121)).cell? _ = _
    rw [World.cell?_alloc_new]; rfl
  have hn1 : (w2.alloc (.cells #[.int .i64 m.id, .int .i64 m.at_] 121)).drew.cell? ⟨w2.heap.size, 1, none⟩ = some (.int .i64 m.at_) := by
    show (w2.alloc (.cells #[.int .i64 m.id, .int .i64 m.at_] 121)).cell? _ = _
    rw [World.cell?_alloc_new]; rfl
  have h3 := Hid.mk_ (h2.out.below b3)
  have s3 : (w2.alloc (.cells #[.int .i64 m.id, .int .i64 m.at_] 121)).drew.cell? ⟨g, 0, none⟩ = some (.slice A n c) ∧ (w2.alloc (.cells #[.int .i64 m.id, .int .i64 m.at_] 121)).drew.cell? ⟨q, 0, none⟩ = some (.int .i64 m.id) ∧ (w2.alloc (.cells #[.int .i64 m.id, .int .i64 m.at_] 121)).drew.cell? ⟨q, 1, none⟩ = some (.int .i64 m.at_) := ⟨keep1 b3 c1, keep1 b3 cm0, keep1 b3 cm1⟩
  refine hK.out _ _ (by exact s3) (fun hHeld => ?_)
  clear hK K
  generalize (w2.alloc (.cells #[.int .i64 m.id, .int .i64 m.at_] 121)).drew = w3 at *
  try simp only [Act.put, List.setIfInBounds_toArray, List.set_cons_zero, List.set_cons_succ]
  refine wpAnyLast_ready (rs := [6]) (by kernel_rfl) (by simp) ?_
  refine AllReadyL.cons (by simp only [List.getElem?_toArray, List.getElem?_cons_zero, List.getElem?_cons_succ]; rfl) (by simp) (fun K hK => ?_) AllReadyL.nil
  obtain ⟨hl3, _, _⟩ := h3.out.own.len
  refine step_app _ (by rfl) _ _ (by rfl) (g + 1) _ hs (by rfl) (by exact h3.out.own) ⟨w2.heap.size, 0, none⟩ m _ (by rfl) (by rw [Addr.add_lit, Addr.add_lit]; exact ⟨hn0, hn1⟩) (by omega) (by have := b3.size; have := A1.out.size; have := HQ.out; omega) ?_
  intro v4 w4 own4 gb4 hor
  have gA : ∀ k, (Value.slice A n c).ownBlock = some k → k ≠ g ∧ k < q := fun k hk => by
    rcases h.out.own.addr with rfl | ⟨b, rfl, h1, h5⟩
    · cases hk
    · simp [Value.ownBlock] at hk
      have := HQ.out
      omega
  have fg : w3.frozen? ⟨g, 0, none⟩ = false := h3.out.fr
  have g4 : w4.cell? ⟨g, 0, none⟩ = some (.slice A n c) := gb4.cell s3.1 (fun e => (gA g e.symm).1 rfl)
  have q0 : w4.cell? ⟨q, 0, none⟩ = some (.int .i64 m.id) := gb4.cell s3.2.1 (fun e => by have := (gA q e.symm).2; omega)
  have q1 : w4.cell? ⟨q, 1, none⟩ = some (.int .i64 m.at_) := gb4.cell s3.2.2 (fun e => by have := (gA q e.symm).2; omega)
  have f4 : w4.frozen? ⟨g, 0, none⟩ = false := by
    have := gb4.block g h3.out.lt (fun e => (gA g e.symm).1 rfl)
    rw [← fg]; simp [World.frozen?, this]
  obtain ⟨A4, n4, c4, rfl⟩ := own4.form
  refine hK.out _ _ (by exact ⟨g4, q0, q1⟩) (fun hHeld => ?_)
  clear hK K
  try simp only [Act.put, List.setIfInBounds_toArray, List.set_cons_zero, List.set_cons_succ]
  refine' wpAnyLast_take (i := 7) (oi := _) (v := _) ?hi7 (by kernel_rfl) (by kernel_rfl) (by kernel_rfl) (by kernel_rfl) (by kernel_rfl) ?hQ7 (Or.inl ⟨?hw7, ?hy7⟩) (by assumption) ?rest7
  case hi7 => exact (by simp only [List.getElem?_toArray, List.getElem?_cons_zero, List.getElem?_cons_succ]; rfl)
  case hQ7 => exact fun _ _ _ h => h
  case hw7 => rfl
  case hy7 =>
    intro w hSw
    try dsimp only at hSw
    go_simp
    all_goals with_reducible rfl
  try simp only [Act.put, List.setIfInBounds_toArray, List.set_cons_zero, List.set_cons_succ]
  refine wpAnyLast_ready (rs := [8]) (by kernel_rfl) (by simp) ?_
  refine AllReadyL.cons_last (by simp only [List.getElem?_toArray, List.getElem?_cons_zero, List.getElem?_cons_succ]; rfl) (by simp) (fun K hK => ?_) AllReadyL.nil
  go_simp
  refine hK.out _ _ ?_
  clear hK K
  try simp only [Act.put, List.setIfInBounds_toArray, List.set_cons_zero, List.set_cons_succ]
  refine wpAnyLast_done (by kernel_rfl) ?_ _
  go_end0
  have P := HpS.put g4 f4 own4
  have W4 : Wr w3 w4 (Its g A) := ⟨gb4.os, gb4.tape, gb4.output, gb4.size, fun k hk hne => gb4.block k hk (fun e => hne (.inr (by
    rcases h.out.own.addr with rfl | ⟨b, rfl, _⟩
    · cases e
    · have e2 : some k = some b := e
      injection e2 with e2
      exact ⟨0, by rw [e2]⟩)))⟩
  have z1 := A1.out.size
  have z3 := b3.size
  have hqq := HQ.out
  refine ⟨rfl, A4, n4, c4, Hid.mk_ P, Hid.mk_ (fun b off e => ?_), Hid.mk_ ((((Wr.of_below (by rw [HQ.out]; exact A1.out) _).then_ (Wr.of_below b3 (fun _ => False)) (fun _ h => h.elim)).then_ W4 (fun i hi => .inl hi)).then_ (Wr.set w4 g 0 _) (fun i hi => .inl (.inl hi)))⟩
  rcases own4.addr with h0 | ⟨b4, h0, h1, h5⟩
  · rw [h0] at e; cases e
  · rw [h0] at e
    injection e with e
    injection e with e1 e2
    subst e1 e2
    subst h0
    rcases hor with h6 | h6
    · left
      rcases h.out.own.addr with rfl | ⟨b, rfl, _⟩
      · cases h6
      · have h7 : some b4 = some b := h6
        injection h7 with h7
        rw [h7]
    · right
      have := h6 b4 rfl
      omega
end Go.Proofs.YthndjhocmpelcaaGreat.Wat
namespace Go.Proofs.YthndjhocmpelcaaGreat.Wat
open Go.RowKit Kit
set_option linter.unusedVariables false
/-- The new address is the old one, or it is new. -/
def Fresh (w : World) (A A' : Option Addr) : Prop := ∀ b off, A' = some ⟨b, off, none⟩ → A = some ⟨b, off, none⟩ ∨ w.heap.size ≤ b
theorem Fresh.its {w : World} {A A' : Option Addr} (h : Fresh w A A') (g : Nat) : ∀ i, Its g A' i → Its g A i ∨ w.heap.size ≤ i := fun i hi => by
  rcases hi with h1 | ⟨off, h1⟩
  · exact .inl (.inl h1)
  · rcases h i off h1 with h2 | h2
    · exact .inl (.inr ⟨off, h2⟩)
    · exact .inr h2
theorem HpS.len {w : World} {g : Nat} {A : Option Addr} {n c : Nat} {hs : List Mom} (h : HpS w g A n c hs) : n = hs.length := h.own.len.1
theorem HpS.gb {w w' : World} {g b n c : Nat} {hs hs' : List Mom} (h : HpS w g (some ⟨b, 0, none⟩) n c hs) (hg : w.grownBy w' (some b)) (ho : OwnM w' (g + 1) (.slice (some ⟨b, 0, none⟩) n c) hs') : HpS w' g (some ⟨b, 0, none⟩) n c hs' := by
  have := h.own.block b 0 rfl
  exact ⟨hg.cell h.cell (by simp; omega), ((Wr.of_gb hg).frozen h.lt (by omega)).trans h.fr, ho⟩
theorem Its.of {g b : Nat} : ∀ k, k = b → Its g (some ⟨b, 0, none⟩) k := fun k e => .inr ⟨0, by rw [e]⟩
theorem upF_len : ∀ (f : Nat) (l : List Mom) (j : Nat), (upF f l j).length = l.length
  | 0, l, j => rfl
  | f + 1, l, j => by
    rw [upF]
    split
    · rfl
    · split
      · split
        · rw [upF_len f]; simp
        · rfl
      · rfl
theorem downF_len : ∀ (f : Nat) (l : List Mom) (i n : Nat), (downF f l i n).1.length = l.length
  | 0, l, i, n => rfl
  | f + 1, l, i, n => by
    rw [downF]
    split
    · split
      · rw [downF_len f, sw_len]
      · rfl
    · rfl
/-- What Push makes of a row. -/
def pushF (hs : List Mom) (m : Mom) : List Mom := upF (hs.length + 1) (hs ++ [m]) hs.length
set_option maxRecDepth 100000 in
set_option maxHeartbeats 2000000 in
theorem push {w : World} {g n c : Nat} {A : Option Addr} {hs : List Mom} (m : Mom) (h : Hid (HpS w g A n c hs)) (hn : n < 1000000) :
    Calls Tryz.prog 77 #[.iface 124 (.pointer (some ⟨g, 0, none⟩)), boxM m] w fun e w' => e = .returned (.tuple #[]) ∧ ∃ A' n' c', Hid (HpS w' g A' n' c' (pushF hs m)) ∧ Hid (Fresh w A A') ∧ Hid (Wr w w' (Its g A)) := by
  have mp := m_push w g
  go_enter Tryz.func77, Tryz.ntmps77
  go_wp2_with fail
  refine (push82 m h (by omega)).mono ?_
  rintro e w1 ⟨rfl, A1, n1, c1, h1, f1, r1⟩
  obtain ⟨b, rfl, hb1, hb2⟩ := h1.out.own.some_ (by simp)
  obtain ⟨k, hk⟩ : ∃ k, k = hs.length := ⟨_, rfl⟩
  have hn1 : n1 = k + 1 := by have := h1.out.len; rw [this, hk]; simp
  have HN := Hid.mk_ hn1
  have hkn : k < 1000000 := by have := h.out.len; omega
  have k3 : (n1 : Int) - 1 = (k : Int) := by omega
  have n1z : (n1 : Int) ≤ 1000000 := by omega
  have c1' := h1.out.cell
  have ml := m_len w1 g _ c1'
  clear hn1
  go_wp2_with (go_at_call 121; refine (len0 _ _ _ _).mono ?_; rintro e w2 ⟨rfl, rfl⟩)
  have c1 := c1'
  clear ml c1'
  refine (up (g) (g + 1) b n1 _ _ (hs ++ [m]) w2 (Hid.mk_ c1) (Hid.mk_ h1.out.own) (Hid.mk_ h1.out.len) (by have := HN.out; omega) (by omega) (by omega) (hs.length + 1) (by omega) (pushF hs m) (Hid.mk_ rfl)).mono ?_
  rintro e w3 ⟨rfl, o3, l3, g3⟩
  go_wp2_with fail
  go_end0
  have f1' := f1.out
  exact ⟨rfl, some ⟨b, 0, none⟩, _, _, Hid.mk_ (h1.out.gb g3 o3.out), f1, Hid.mk_ (r1.out.then_ ((Wr.of_gb g3).mono Its.of) (Fresh.its f1.out g))⟩
def popR (hs : List Mom) : List Mom := (downF hs.length (sw hs 0 (hs.length - 1)) 0 (hs.length - 1)).1
theorem popR_len (hs : List Mom) : (popR hs).length = hs.length := by unfold popR; rw [downF_len, sw_len]
theorem split_last (l : List Mom) (k : Nat) (h : l.length = k + 1) : l = l.take k ++ [fn l k] := by
  have h2 := fn_get (l := l) (k := k) (by omega)
  rw [List.getElem?_eq_getElem (by omega)] at h2
  injection h2 with h2
  rw [← h2]
  conv => lhs; rw [← List.take_append_drop k l]
  congr 1
  rw [List.drop_eq_getElem_cons (by omega), List.drop_of_length_le (by omega)]
set_option maxRecDepth 100000 in
set_option maxHeartbeats 2000000 in
theorem pop {w : World} {g n c : Nat} {A : Option Addr} {hs : List Mom} (h : Hid (HpS w g A n c hs)) (k : Nat) (hk : Hid (n = k + 1)) (hn : k < 1000000) :
    Calls Tryz.prog 71 #[.iface 124 (.pointer (some ⟨g, 0, none⟩))] w fun e w' => e = .returned (boxM (fn (popR hs) k)) ∧ Hid (HpS w' g A k c ((popR hs).take k)) ∧ Hid (Wr w w' (Its g A)) := by
  have hl := h.out.len
  have hkk := hk.out
  obtain ⟨b, rfl, hb1, hb2⟩ := h.out.own.some_ (by omega)
  have k3 : (n : Int) - 1 = (k : Int) := by omega
  have n1z : (n : Int) ≤ 1000000 := by omega
  have HL := Hid.mk_ hl
  have c1 := h.out.cell
  have ml := m_len w g _ c1
  have ms := m_swap w g _ c1
  clear hl hkk
  go_enter Tryz.func71, Tryz.ntmps71
  go_wp2_with (go_at_call 121; refine (len0 _ _ _ _).mono ?_; rintro e w2 ⟨rfl, rfl⟩)
  clear ml ms
  refine (swapI (g + 1) b n c 0 k 0 _ hs _ (Hid.mk_ h.out.own) (Hid.mk_ rfl) (Hid.mk_ rfl) (Hid.mk_ (by have := hk.out; omega)) (Hid.mk_ (by have := hk.out; omega)) HL (by omega)).mono ?_
  rintro e w3 ⟨rfl, o3, g3⟩
  have h3 := Hid.mk_ (h.out.gb g3 o3)
  have R3 := Hid.mk_ ((Wr.of_gb g3).mono (Its.of (g := g)))
  have HD : Hid (downF n (sw hs 0 k) 0 k = (popR hs, (downF n (sw hs 0 k) 0 k).2)) := Hid.mk_ (by
    have e1 : hs.length - 1 = k := by have := hk.out; have := HL.out; omega
    have e2 : hs.length = n := HL.out.symm
    unfold popR
    rw [e1, e2])
  have c3 := h3.out.cell
  have hl3 := Hid.mk_ h3.out.len
  clear o3 g3 c1 h
  go_wp2_with fail
  refine (down g (g + 1) b n c 0 k (sw hs 0 k) _ (Hid.mk_ c3) (Hid.mk_ h3.out.own) hl3 (by have := hk.out; omega) (by omega) (by have := hk.out; omega) (by omega) n (by have := hk.out; omega) _ _ HD).mono ?_
  rintro e w4 ⟨rfl, o4, l4, g4⟩
  have h4 := h3.out.gb g4 o4.out
  rw [split_last (popR hs) k (by rw [l4]; exact hk.out)] at h4
  have h4 := Hid.mk_ h4
  have R4 := Hid.mk_ (R3.out.then_ ((Wr.of_gb g4).mono Its.of) (fun i hi => .inl hi))
  have mp := m_pop w4 g
  clear R3 h3 c3 g4 o4
  go_wp2_with (go_at_call 124; refine (pop81 h4 (by have := hk.out; omega)).mono ?_; rintro e w5 ⟨rfl, k', hk', h5, r5⟩)
  have e5 : k' = k := by have := hk'.out; have := hk.out; omega
  subst e5
  go_wp2_with fail
  go_ret
  exact ⟨rfl, h5, Hid.mk_ (R4.out.then_ r5 (fun i hi => .inl (.inl hi)))⟩
end Go.Proofs.YthndjhocmpelcaaGreat.Wat
namespace Go.Proofs.YthndjhocmpelcaaGreat.Wat
open Go.RowKit Kit
set_option linter.unusedVariables false
def remR (hs : List Mom) (i : Nat) : List Mom :=
  if i = hs.length - 1 then hs else
    if i < (downF hs.length (sw hs i (hs.length - 1)) i (hs.length - 1)).2 then (downF hs.length (sw hs i (hs.length - 1)) i (hs.length - 1)).1
    else upF (i + 1) (downF hs.length (sw hs i (hs.length - 1)) i (hs.length - 1)).1 i
theorem remR_len (hs : List Mom) (i : Nat) : (remR hs i).length = hs.length := by
  unfold remR
  split
  · rfl
  · split
    · rw [downF_len, sw_len]
    · rw [upF_len, downF_len, sw_len]
set_option maxRecDepth 100000 in
set_option maxHeartbeats 2000000 in
theorem remove {w : World} {g n c : Nat} {A : Option Addr} {hs : List Mom} (h : Hid (HpS w g A n c hs)) (k i : Nat) (hk : Hid (n = k + 1)) (hi : i ≤ k) (hn : k < 1000000) :
    Calls Tryz.prog 88 #[.iface 124 (.pointer (some ⟨g, 0, none⟩)), .int .i64 (i : Int)] w fun e w' => e = .returned (boxM (fn (remR hs i) k)) ∧ Hid (HpS w' g A k c ((remR hs i).take k)) ∧ Hid (Wr w w' (Its g A)) := by
  have hl := h.out.len
  have hkk := hk.out
  obtain ⟨b, rfl, hb1, hb2⟩ := h.out.own.some_ (by omega)
  have k3 : (n : Int) - 1 = (k : Int) := by omega
  have n1z : (n : Int) ≤ 1000000 := by omega
  have HL := Hid.mk_ hl
  have e1 : hs.length - 1 = k := by omega
  have c1 := h.out.cell
  have ml := m_len w g _ c1
  have ms := m_swap w g _ c1
  clear hl hkk
  by_cases hik : i = k
  · have eR : remR hs i = hs := by unfold remR; rw [e1, if_pos hik]
    rw [eR]
    have hb0 : ((k : Int) == (i : Int)) = true := beq_iff_eq.2 (by omega)
    have h4 := h.out
    rw [split_last hs k (by have := hk.out; have := HL.out; omega)] at h4
    have h4 := Hid.mk_ h4
    have mp := m_pop w g
    clear eR
    go_enter Tryz.func88, Tryz.ntmps88
    go_wp2_with (first | (go_at_call 121; refine (len0 _ _ _ _).mono ?_; rintro e w2 ⟨rfl, rfl⟩) | (go_at_call 124; refine (pop81 h4 (by have := hk.out; omega)).mono ?_; rintro e w5 ⟨rfl, k', hk', h5, r5⟩))
    have e5 : k' = k := by have := hk'.out; have := hk.out; omega
    subst e5
    go_wp2_with fail
    go_ret
    exact ⟨rfl, h5, Hid.mk_ (r5.mono (fun i hi => .inl hi))⟩
  · have hb0 : ((k : Int) == (i : Int)) = false := beq_eq_false_iff_ne.2 (by omega)
    have eR : remR hs i = if i < (downF n (sw hs i k) i k).2 then (downF n (sw hs i k) i k).1 else upF (i + 1) (downF n (sw hs i k) i k).1 i := by
      unfold remR; rw [e1, if_neg hik, ← HL.out]
    rw [eR]
    obtain ⟨D, iD, hD⟩ : ∃ D iD, downF n (sw hs i k) i k = (D, iD) := ⟨_, _, rfl⟩
    have dl : D.length = n := by have := downF_len n (sw hs i k) i k; rw [hD, sw_len] at this; rw [this]; exact HL.out.symm
    rw [hD]
    have HD := Hid.mk_ hD
    have DL := Hid.mk_ dl
    clear eR hD dl
    by_cases hlt : i < iD
    · rw [if_pos hlt]
      go_enter Tryz.func88, Tryz.ntmps88
      go_wp2_with (first | (go_at_call 121; refine (len0 _ _ _ _).mono ?_; rintro e w2 ⟨rfl, rfl⟩) | fail)
      clear ml ms
      refine (swapI (g + 1) b n c i k _ _ hs _ (Hid.mk_ h.out.own) (Hid.mk_ rfl) (Hid.mk_ rfl) (Hid.mk_ (by have := hk.out; omega)) (Hid.mk_ (by have := hk.out; omega)) HL (by omega)).mono ?_
      rintro e w3 ⟨rfl, o3, g3⟩
      have h3 := Hid.mk_ (h.out.gb g3 o3)
      have R3 := Hid.mk_ ((Wr.of_gb g3).mono (Its.of (g := g)))
      have c3 := h3.out.cell
      have hl3 := Hid.mk_ h3.out.len
      clear o3 g3 c1 h
      go_wp2_with fail
      refine (down g (g + 1) b n c i k (sw hs i k) _ (Hid.mk_ c3) (Hid.mk_ h3.out.own) hl3 (by have := hk.out; omega) (by omega) (by have := hk.out; omega) (by omega) n (by have := hk.out; omega) _ _ HD).mono ?_
      rintro e w4 ⟨rfl, o4, l4, g4⟩
      have h4 := h3.out.gb g4 o4.out
      rw [split_last D k (by rw [l4]; exact hk.out)] at h4
      have h4 := Hid.mk_ h4
      have R4 := Hid.mk_ (R3.out.then_ ((Wr.of_gb g4).mono Its.of) (fun i hi => .inl hi))
      have mp := m_pop w4 g
      clear R3 h3 c3 g4 o4
      rw [decide_eq_true hlt]
      go_wp2_with (go_at_call 124; refine (pop81 h4 (by have := hk.out; omega)).mono ?_; rintro e w5 ⟨rfl, k', hk', h5, r5⟩)
      have e5 : k' = k := by have := hk'.out; have := hk.out; omega
      subst e5
      go_wp2_with fail
      go_ret
      exact ⟨rfl, h5, Hid.mk_ (R4.out.then_ r5 (fun i hi => .inl (.inl hi)))⟩
    · rw [if_neg hlt]
      go_enter Tryz.func88, Tryz.ntmps88
      go_wp2_with (first | (go_at_call 121; refine (len0 _ _ _ _).mono ?_; rintro e w2 ⟨rfl, rfl⟩) | fail)
      clear ml ms
      refine (swapI (g + 1) b n c i k _ _ hs _ (Hid.mk_ h.out.own) (Hid.mk_ rfl) (Hid.mk_ rfl) (Hid.mk_ (by have := hk.out; omega)) (Hid.mk_ (by have := hk.out; omega)) HL (by omega)).mono ?_
      rintro e w3 ⟨rfl, o3, g3⟩
      have h3 := Hid.mk_ (h.out.gb g3 o3)
      have R3 := Hid.mk_ ((Wr.of_gb g3).mono (Its.of (g := g)))
      have c3 := h3.out.cell
      have hl3 := Hid.mk_ h3.out.len
      clear o3 g3 c1 h
      go_wp2_with fail
      refine (down g (g + 1) b n c i k (sw hs i k) _ (Hid.mk_ c3) (Hid.mk_ h3.out.own) hl3 (by have := hk.out; omega) (by omega) (by have := hk.out; omega) (by omega) n (by have := hk.out; omega) _ _ HD).mono ?_
      rintro e w4 ⟨rfl, o4, l4, g4⟩
      have h4 := Hid.mk_ (h3.out.gb g4 o4.out)
      have R4 := Hid.mk_ (R3.out.then_ ((Wr.of_gb g4).mono Its.of) (fun i hi => .inl hi))
      have c4 := h4.out.cell
      clear R3 h3 c3 g4 o4
      rw [decide_eq_false hlt]
      go_wp2_with fail
      refine (up g (g + 1) b n c i D w4 (Hid.mk_ c4) (Hid.mk_ h4.out.own) (Hid.mk_ l4.symm) (by have := hk.out; omega) (by omega) (by omega) (i + 1) (by omega) (upF (i + 1) D i) (Hid.mk_ rfl)).mono ?_
      rintro e w5 ⟨rfl, o5, l5, g5⟩
      have h5 := h4.out.gb g5 o5.out
      rw [split_last (upF (i + 1) D i) k (by rw [l5]; exact hk.out)] at h5
      have h5 := Hid.mk_ h5
      have R5 := Hid.mk_ (R4.out.then_ ((Wr.of_gb g5).mono Its.of) (fun i hi => .inl hi))
      have mp := m_pop w5 g
      clear R4 h4 c4 g5 o5
      go_wp2_with (go_at_call 124; refine (pop81 h5 (by have := hk.out; omega)).mono ?_; rintro e w6 ⟨rfl, k', hk', h6, r6⟩)
      have e5 : k' = k := by have := hk'.out; have := hk.out; omega
      subst e5
      go_wp2_with fail
      go_ret
      exact ⟨rfl, h6, Hid.mk_ (R5.out.then_ r6 (fun i hi => .inl (.inl hi)))⟩
end Go.Proofs.YthndjhocmpelcaaGreat.Wat
namespace Go.Proofs.YthndjhocmpelcaaGreat.Wat
open Go.RowKit Kit Heap
set_option linter.unusedVariables false
theorem ordM : Ordr ltM where
  asym := by
    intro a b h
    unfold ltM at *
    split at h <;> rename_i e
    · rw [if_pos e.symm]; simp at *; omega
    · rw [if_neg (fun h => e h.symm)]; simp at *; omega
  ntrans := by
    intro a b c h k
    unfold ltM at *
    split at h <;> split at k <;> split <;> simp at * <;> omega
theorem sw_fn (l : List Mom) (i j : Nat) (hi : i < l.length) (hj : j < l.length) : ∀ k, fn (sw l i j) k = swap (fn l) i j k := by
  intro k
  unfold swap sw
  unfold fn
  rw [List.getElem?_set, List.getElem?_set]
  by_cases e2 : j = k
  · subst e2
    rw [if_pos rfl, if_pos (by simpa using hj)]
    by_cases e1 : j = i
    · rw [if_pos e1, e1]; rfl
    · rw [if_neg e1, if_pos rfl]; rfl
  · rw [if_neg e2]
    by_cases e1 : i = k
    · subst e1
      rw [if_pos rfl, if_pos hi, if_pos rfl]; rfl
    · rw [if_neg e1, if_neg (fun e => e1 e.symm), if_neg (fun e => e2 e.symm)]
theorem fn_eq {l : List Mom} {k : Nat} (h : k < l.length) : fn l k = l[k] := by
  have := fn_get h
  rw [List.getElem?_eq_getElem h] at this
  injection this with this
  exact this.symm
theorem sw_perm (l : List Mom) (i j : Nat) (hi : i < l.length) (hj : j < l.length) : (sw l i j).Perm l := by
  unfold sw
  rw [fn_eq hi, fn_eq hj]
  exact List.set_set_perm hi hj
theorem isH_congr {f g : Nat → Mom} {n : Nat} (h : IsH ltM f n) (he : ∀ k, k < n → g k = f k) : IsH ltM g n := fun k k0 kn => by
  have := par_lt k0
  rw [he k kn, he (par k) (by omega)]
  exact h k k0 kn
theorem upF_law : ∀ (fuel : Nat) (l : List Mom) (n j : Nat), j < fuel → j < n → n ≤ l.length → UpH ltM (fn l) n j →
    IsH ltM (fn (upF fuel l j)) n ∧ (upF fuel l j).Perm l ∧ ∀ k, n ≤ k → fn (upF fuel l j) k = fn l k
  | 0, l, n, j, h, _, _, _ => absurd h (Nat.not_lt_zero _)
  | fuel + 1, l, n, j, hf, hj, hn, h => by
    rw [upF]
    by_cases h0 : j = 0
    · subst h0
      rw [if_pos rfl]
      exact ⟨h.done0, .refl _, fun k _ => rfl⟩
    · rw [if_neg h0, fn_get (by omega), fn_get (l := l) (k := (j - 1) / 2) (by omega)]
      simp only
      cases hl : ltM (fn l j) (fn l ((j - 1) / 2)) with
      | false =>
        rw [if_neg (by simp)]
        exact ⟨h.done hl, .refl _, fun k _ => rfl⟩
      | true =>
        rw [if_pos rfl]
        have hp : par j < j := par_lt (by omega)
        have es : (l.set ((j - 1) / 2) (fn l j)).set j (fn l ((j - 1) / 2)) = sw l (par j) j := rfl
        rw [es]
        have e1 := sw_fn l (par j) j (by omega) (by omega)
        have hs := h.step ordM (by omega) hj hl
        have e2 : fn (sw l (par j) j) = swap (fn l) (par j) j := funext e1
        rw [← e2] at hs
        obtain ⟨r1, r2, r3⟩ := upF_law fuel (sw l (par j) j) n (par j) (by omega) (by omega) (by rw [sw_len]; exact hn) hs
        refine ⟨r1, r2.trans (sw_perm _ _ _ (by omega) (by omega)), fun k hk => (r3 k hk).trans ?_⟩
        rw [e1 k]
        unfold swap
        rw [if_neg (by omega), if_neg (by omega)]
theorem downF_law : ∀ (fuel : Nat) (l : List Mom) (n i : Nat), n < i + fuel → i ≤ n → n ≤ l.length → DnH ltM (fn l) n i →
    IsH ltM (fn (downF fuel l i n).1) n ∧ (downF fuel l i n).1.Perm l ∧ (∀ k, n ≤ k → fn (downF fuel l i n).1 k = fn l k) ∧ i ≤ (downF fuel l i n).2
  | 0, l, n, i, h, h2, _, _ => by omega
  | fuel + 1, l, n, i, hf, hi, hn, h => by
    rw [downF]
    by_cases h1 : 2 * i + 1 < n
    · rw [if_pos h1]
      have hk := kid_par (lt := ltM) (fn l) n i
      have hkn := kid_lt (lt := ltM) (f := fn l) h1
      cases hl : ltM (fn l (kid ltM (fn l) n i)) (fn l i) with
      | false =>
        rw [if_neg (by simp)]
        exact ⟨h.done ordM hl, .refl _, fun k _ => rfl, Nat.le_refl _⟩
      | true =>
        rw [if_pos rfl]
        have hs := h.step ordM h1 hl
        generalize kid ltM (fn l) n i = j at *
        have e1 := sw_fn l i j (by omega) (by omega)
        have e2 : fn (sw l i j) = swap (fn l) i j := funext e1
        rw [← e2] at hs
        obtain ⟨r1, r2, r3, r4⟩ := downF_law fuel (sw l i j) n j (by omega) (by omega) (by rw [sw_len]; exact hn) hs
        refine ⟨r1, r2.trans (sw_perm _ _ _ (by omega) (by omega)), fun k hk => (r3 k hk).trans ?_, by omega⟩
        rw [e1 k]
        unfold swap
        rw [if_neg (by omega), if_neg (by omega)]
    · rw [if_neg h1]
      exact ⟨h.none_ h1, .refl _, fun k _ => rfl, Nat.le_refl _⟩
/-- Down from where another one stands: if it did not move, its children are not ahead of it. -/
theorem downF_at (fuel : Nat) (l : List Mom) (n i : Nat) (hf : n < i + (fuel + 1)) (hi : i < n) (hn : n ≤ l.length) (h : AtH ltM (fn l) n i) :
    (downF (fuel + 1) l i n).1.Perm l ∧ (∀ k, n ≤ k → fn (downF (fuel + 1) l i n).1 k = fn l k) ∧
      ((i < (downF (fuel + 1) l i n).2 ∧ IsH ltM (fn (downF (fuel + 1) l i n).1) n) ∨ (¬ i < (downF (fuel + 1) l i n).2 ∧ UpH ltM (fn (downF (fuel + 1) l i n).1) n i)) := by
  rw [downF]
  by_cases h1 : 2 * i + 1 < n
  · rw [if_pos h1]
    have hk := kid_par (lt := ltM) (fn l) n i
    have hkn := kid_lt (lt := ltM) (f := fn l) h1
    cases hl : ltM (fn l (kid ltM (fn l) n i)) (fn l i) with
    | false =>
      rw [if_neg (by simp)]
      exact ⟨.refl _, fun k _ => rfl, .inr ⟨Nat.lt_irrefl _, h.up fun k k0 kn kp => ordM.ntrans _ _ _ (kid_le ordM (fn l) n i k k0 kn kp) hl⟩⟩
    | true =>
      rw [if_pos rfl]
      have hs := h.down ordM h1 hl
      generalize kid ltM (fn l) n i = j at *
      have e1 := sw_fn l i j (by omega) (by omega)
      have e2 : fn (sw l i j) = swap (fn l) i j := funext e1
      rw [← e2] at hs
      obtain ⟨r1, r2, r3, r4⟩ := downF_law fuel (sw l i j) n j (by omega) (by omega) (by rw [sw_len]; exact hn) hs
      refine ⟨r2.trans (sw_perm _ _ _ (by omega) (by omega)), fun k hk => (r3 k hk).trans ?_, .inl ⟨by omega, r1⟩⟩
      rw [e1 k]
      unfold swap
      rw [if_neg (by omega), if_neg (by omega)]
  · rw [if_neg h1]
    refine ⟨.refl _, fun k _ => rfl, .inr ⟨Nat.lt_irrefl _, h.up fun k k0 kn kp => ?_⟩⟩
    unfold par at kp
    omega
theorem fn_append_left {l r : List Mom} {k : Nat} (h : k < l.length) : fn (l ++ r) k = fn l k := by
  unfold fn; rw [List.getElem?_append_left h]
theorem fn_take {l : List Mom} {n k : Nat} (h : k < n) : fn (l.take n) k = fn l k := by
  unfold fn; rw [List.getElem?_take_of_lt h]
/-- A heap. -/
def Hp (l : List Mom) : Prop := IsH ltM (fn l) l.length
theorem Hp.push {l : List Mom} (h : Hp l) (m : Mom) : Hp (pushF l m) ∧ (pushF l m).Perm (m :: l) := by
  have hu : UpH ltM (fn (l ++ [m])) (l.length + 1) l.length := by
    refine ⟨fun k k0 kn kj => ?_, fun k k0 kn kp p0 => ?_⟩
    · have := par_lt k0
      rw [fn_append_left (by omega), fn_append_left (by omega)]
      exact h k k0 (by omega)
    · have := par_lt k0
      unfold par at kp; omega
  obtain ⟨r1, r2, _⟩ := upF_law (l.length + 1) (l ++ [m]) (l.length + 1) l.length (by omega) (by omega) (by simp) hu
  refine ⟨?_, r2.trans (List.perm_append_comm.trans (List.Perm.refl _))⟩
  unfold Hp pushF
  rw [upF_len]
  simpa using r1
theorem take_perm {l : List Mom} {k : Nat} (h : l.length = k + 1) : l.Perm (fn l k :: l.take k) := by
  conv => lhs; rw [split_last l k h]
  exact List.perm_append_comm
theorem Hp.pop {l : List Mom} (h : Hp l) {k : Nat} (hk : l.length = k + 1) : fn (popR l) k = fn l 0 ∧ Hp ((popR l).take k) ∧ l.Perm (fn l 0 :: (popR l).take k) := by
  have e1 : l.length - 1 = k := by omega
  have es := sw_fn l 0 k (by omega) (by omega)
  have hd : DnH ltM (fn (sw l 0 k)) k 0 := by
    refine ⟨fun j j0 jn jp => ?_, fun j j0 jn jp p0 => absurd p0 (Nat.lt_irrefl _)⟩
    have := par_lt j0
    rw [es, es]
    unfold swap
    rw [if_neg (by omega), if_neg (by omega), if_neg jp, if_neg (by omega)]
    exact h j j0 (by omega)
  obtain ⟨r1, r2, r3, _⟩ := downF_law l.length (sw l 0 k) k 0 (by omega) (by omega) (by rw [sw_len]; omega) hd
  have eP : popR l = (downF l.length (sw l 0 k) 0 k).1 := by unfold popR; rw [e1]
  rw [← eP] at r1 r2 r3
  have r2 := r2.trans (sw_perm l 0 k (by omega) (by omega))
  have ek : fn (popR l) k = fn l 0 := by
    rw [r3 k (Nat.le_refl _), es]
    unfold swap
    by_cases e : k = 0
    · subst e; rw [if_pos rfl]
    · rw [if_neg e, if_pos rfl]
  have hl := popR_len l
  refine ⟨ek, ?_, r2.symm.trans (by rw [← ek]; exact take_perm (by omega))⟩
  unfold Hp
  rw [List.length_take, Nat.min_eq_left (by omega)]
  exact isH_congr r1 fun j hj => fn_take hj
theorem Hp.rem {l : List Mom} (h : Hp l) {k i : Nat} (hk : l.length = k + 1) (hi : i ≤ k) : fn (remR l i) k = fn l i ∧ Hp ((remR l i).take k) ∧ l.Perm (fn l i :: (remR l i).take k) := by
  have e1 : l.length - 1 = k := by omega
  have hl := remR_len l i
  suffices hh : IsH ltM (fn (remR l i)) k ∧ (remR l i).Perm l ∧ fn (remR l i) k = fn l i by
    obtain ⟨r1, r2, ek⟩ := hh
    refine ⟨ek, ?_, r2.symm.trans (by rw [← ek]; exact take_perm (by omega))⟩
    unfold Hp
    rw [List.length_take, Nat.min_eq_left (by omega)]
    exact isH_congr r1 fun j hj => fn_take hj
  by_cases hik : i = k
  · have eR : remR l i = l := by unfold remR; rw [e1, if_pos hik]
    rw [eR]
    exact ⟨fun j j0 jn => h j j0 (by omega), .refl _, by rw [hik]⟩
  · have es := sw_fn l i k (by omega) (by omega)
    have ha : AtH ltM (fn (sw l i k)) k i := by
      refine ⟨fun j j0 jn ji jp => ?_, fun j j0 jn jp p0 => ?_⟩
      · have := par_lt j0
        rw [es, es]
        unfold swap
        rw [if_neg ji, if_neg (by omega), if_neg jp, if_neg (by omega)]
        exact h j j0 (by omega)
      · have := par_lt j0
        have := par_lt p0
        rw [es, es]
        unfold swap
        rw [if_neg (by omega), if_neg (by omega), if_neg (by omega), if_neg (by omega)]
        have h1 := h j j0 (by omega)
        rw [jp] at h1
        exact ordM.ntrans _ _ _ h1 (h i p0 (by omega))
    obtain ⟨r1, r2, r3⟩ := downF_at k (sw l i k) k i (by omega) (by omega) (by rw [sw_len]; omega) ha
    have r1 := r1.trans (sw_perm l i k (by omega) (by omega))
    have ek : fn (sw l i k) k = fn l i := by rw [es]; unfold swap; rw [if_neg (by omega), if_pos rfl]
    have eR : remR l i = if i < (downF (k + 1) (sw l i k) i k).2 then (downF (k + 1) (sw l i k) i k).1 else upF (i + 1) (downF (k + 1) (sw l i k) i k).1 i := by
      unfold remR; rw [e1, if_neg hik, hk]
    rw [eR]
    have dl := downF_len (k + 1) (sw l i k) i k
    rw [sw_len] at dl
    rcases r3 with ⟨h1, h2⟩ | ⟨h1, h2⟩
    · rw [if_pos h1]
      exact ⟨h2, r1, (r2 k (Nat.le_refl _)).trans ek⟩
    · rw [if_neg h1]
      obtain ⟨u1, u2, u3⟩ := upF_law (i + 1) _ k i (by omega) (by omega) (by rw [dl]; omega) h2
      exact ⟨u1, u2.trans r1, ((u3 k (Nat.le_refl _)).trans (r2 k (Nat.le_refl _))).trans ek⟩
theorem Hp.top {l : List Mom} (h : Hp l) : ∀ m ∈ l, ltM m (fn l 0) = false := by
  intro m hm
  obtain ⟨k, hk, rfl⟩ := List.getElem_of_mem hm
  rw [← fn_eq hk]
  exact IsH.top ordM h k hk
end Go.Proofs.YthndjhocmpelcaaGreat.Wat
